import Derived.Test.YtgpkaoombhobmaaGreatKW1
set_option linter.unusedVariables false
set_option linter.unusedSimpArgs false
namespace Go.Proofs.YtgpkaoombhobmaaGreat
open Go.Cx Tab
set_option maxHeartbeats 400000
set_option maxRecDepth 40000
theorem Zmn {n:Int} (h:0<=n):Zgy Tryz.prog 3 341 (I n)=some (FL n.toNat):=Zng tui3 (by kernel_rfl) h
theorem Zmo {n:Nat} (h:n<9007199254740992):Zgy Tryz.prog 341 3 (FL n)=some (I n):=Znh (by kernel_rfl) tui3 h
theorem ZwB (a m:Nat) (h:a+m<=1099511627776):Zd Tryz.prog 311 [I a,I m] (.tup [CL a m,I 0]):=by
 have h1:¬(1099511627776:Int)<a:=by omega
 have h2:¬(1099511627776:Int) -a<m:=by omega
 have h3:IntKind.i64.wrap (1099511627776 -(a:Int))=1099511627776 -(a:Int):=Zg (by omega) (by omega)
 have e1:=Zmn (n:=(a:Int)) (by omega)
 have e2:=Zmn (n:=(m:Int)) (by omega)
 simp only[Int.toNat_natCast] at e1 e2
 refine Pm Tryz.func311 λhfit=> ?_
 simp[Tryz.f311]
 have s_:=An @h1 (An @h2 (An @h3 (An @e1 (@e2))))
 exact WW
theorem Zuc (a m:Int) (ha:inI a) (h:a<0\/1099511627776<a\/m<0\/1099511627776 -a<m):Zd Tryz.prog 311 [I a,I m] (.tup [CL 0 0,I 1]):=by
 have hz:CL 0 0=AV.val (Value.complex .f64 0 0):=rfl
 refine Pm Tryz.func311 λhfit=> ?_
 simp[Tryz.f311,FB_zero]
 by_cases h1:a<0
 ·have s_:=An @h1 (@FB_zero)
  exact WW
 by_cases h2:1099511627776<a
 ·have s_:=An @h1 (An @h2 (@FB_zero))
  exact WW
 by_cases h3:m<0
 ·have s_:=An @h1 (An @h2 (An @h3 (@FB_zero)))
  exact WW
 have h4:IntKind.i64.wrap (1099511627776 -a)=1099511627776 -a:=Zg (by omega) (by omega)
 have h5:1099511627776 -a<m:=by omega
 have s_:=An @h1 (An @h2 (An @h3 (An @h4 (An @h5 (@FB_zero)))))
 exact WW
theorem end_ok (a m:Nat) (h:a+m<=1099511627776):Zd Tryz.prog 333 [CL a m] (FL (a+m)):=by
 have e:∀t ox oy,abin Tryz.prog .add t ox oy (FL a) (FL m)=some (FL (a+m)):=λt ox oy=>ZoJ t ox oy (by omega)
 refine Pm Tryz.func333 λhfit=> ?_
 simp[Tryz.f333]
 have s_:=e
 exact WW
theorem ZwC (a m:Nat) (h:a+m<=1099511627776):Zd Tryz.prog 313 [CL a m] (.tup [I a,I m]):=by
 have e1:=Zmo (n:=a) (by omega)
 have e2:=Zmo (n:=m) (by omega)
 refine Pm Tryz.func313 λhfit=> ?_
 simp[Tryz.f313]
 have s_:=An @e1 (@e2)
 exact WW
theorem both_ok (a m b k:Nat) (h:a+m<=1099511627776) (h':b+k<=1099511627776):Zd Tryz.prog 312 [CL a m,CL b k] (if min (a+m) (b+k)<=max a b then .tup [CL 0 0,B false] else .tup [CL (max a b) (min (a+m) (b+k) -max a b),B true]):=by
 have h1:=end_ok a m h
 have h2:=end_ok b k h'
 have e1:∀(h:Za) t t' ty cs,ZaL Tryz.prog h .max [t,t'] ty cs [FL a,FL b]=some (FL (max a b),h):=λh t t' ty cs=>Zne h t t' ty cs a b (by omega) (by omega)
 have e2:∀(h:Za) t t' ty cs,ZaL Tryz.prog h .min [t,t'] ty cs [FL (a+m),FL (b+k)]=some (FL (min (a+m) (b+k)),h):=λh t t' ty cs=>Znf h t t' ty cs (a+m) (b+k) (by omega) (by omega)
 have e3:∀t ox oy,abin Tryz.prog .geq t ox oy (FL (max a b)) (FL (min (a+m) (b+k)))=some (B (decide (min (a+m) (b+k)<=max a b))):=λt ox oy=>Zwa t ox oy (by omega) (by omega)
 by_cases hq:min (a+m) (b+k)<=max a b
 ·rw[if_pos hq]
  refine Pm Tryz.func312 λhfit=> ?_
  simp[Tryz.f312,FB_zero]
  have s_:=An @e1 (An @e2 (An @e3 (An @hq (@FB_zero))))
  exact WW
 ·have e4:∀t ox oy,abin Tryz.prog .sub t ox oy (FL (min (a+m) (b+k))) (FL (max a b))=some (FL (min (a+m) (b+k) -max a b)):=λt ox oy=>ZvY t ox oy (by omega) (by omega)
  rw[if_neg hq]
  refine Pm Tryz.func312 λhfit=> ?_
  simp[Tryz.f312]
  have s_:=An @e1 (An @e2 (An @e3 (An @e4 (@hq))))
  exact WW
theorem part_T (s:List UInt8) (a b:Nat):(T s).extract a b=T ((s.take b).drop a):=by rw[T_ext]
theorem read_ok (s:List UInt8) (at_ many:Int) (h1:inI at_) (h2:inI many) (hs:s.length<=1099511627776):Zd Tryz.prog 271 [S (T s),I at_,I many] (.tup [S (T (readT s at_ many).1),I (readT s at_ many).2]):=by
 by_cases hb:at_<0\/1099511627776<at_\/many<0\/1099511627776 -at_<many
 ·have c1:=Zuc at_ many h1 hb
  simp only[readT,if_pos hb]
  refine Pm Tryz.func271 λhfit=> ?_
  simp[Tryz.f271]
  have p1_:=c1
  exact WW
 have hb2:0<=at_/\0<=many/\at_+many<=1099511627776:=by omega
 obtain⟨b1,b2,b3⟩:=hb2
 obtain⟨a,rfl⟩:=Int.eq_ofNat_of_zero_le b1
 obtain⟨m,rfl⟩:=Int.eq_ofNat_of_zero_le b2
 have c1:=ZwB a m (by omega)
 have c2:=ZwB 0 s.length (by omega)
 have c3:=both_ok a m 0 s.length (by omega) (by omega)
 simp only[readT,if_neg hb,Int.toNat_natCast]
 by_cases hq:min (a+m) (0+s.length)<=max a 0
 ·rw[if_pos hq] at c3
  have e:(s.drop a).take m=[]:=by
   rcases Nat.lt_or_ge a s.length with q|q
   ·have:m=0:=by omega
    subst this;simp
   ·rw[List.drop_eq_nil_of_le q];simp
  rw[e]
  refine Pm Tryz.func271 λhfit=> ?_
  simp[Tryz.f271]
  have s_:=T_size
  have p1_:=c1
  have p2_:=c2
  have p3_:=c3
  exact WW
 ·rw[if_neg hq] at c3
  have c4:=ZwC (max a 0) (min (a+m) (0+s.length) -max a 0) (by omega)
  have e1:max a 0=a:=by omega
  rw[e1] at c3 c4
  generalize hn:min (a+m) (0+s.length) -a=n at*
  have hn1:a+n<=s.length:=by omega
  have hw:IntKind.i64.wrap ((a:Int)+n)=((a+n:Nat):Int):=by rw[Zg (by omega) (by omega)];omega
  have e:(T s).extract a (a+n)=T ((s.drop a).take m):=by
   rw[part_T]
   congr 1
   rw[List.drop_take,Nat.add_sub_cancel_left]
   rcases Nat.lt_or_ge (a+m) s.length with q|q
   ·have:n=m:=by omega
    rw[this]
   ·rw[List.take_of_length_le (by rw[List.length_drop];omega),List.take_of_length_le (by rw[List.length_drop];omega)]
  have hn2:(a:Int)<=((a+n:Nat):Int):=by omega
  have hn3:((a+n:Nat):Int)<=s.length:=by omega
  refine Pm Tryz.func271 λhfit=> ?_
  simp[Tryz.f271]
  have e':(T s).extract a ((a:Int)+(n:Int)).toNat=T ((s.drop a).take m):=by rw[<-e];congr 1
  have s_:=An @T_size (An @hw (An @e (An @e' (An @hn1 (An @hn2 (@hn3))))))
  have p1_:=c1
  have p2_:=c2
  have p3_:=c3
  have p4_:=c4
  exact WW
theorem bytesA_T (s:List UInt8):Zhg (T s)=s.map yb:=rfl
theorem rep_yb (n:Nat):List.replicate n (AV.val (Value.int IntKind.u8 0))=(List.replicate n (0:UInt8)).map yb:=by
 rw[List.map_replicate];rfl
def Zik (l:List UInt8) (k:Nat) (t:List UInt8):List UInt8:=l.take k++t++l.drop (k+t.length)
theorem Zud (l:List UInt8) (k:Nat) (t:List UInt8):putAt (l.map yb) k (t.map yb)=(Zik l k t).map yb:=by simp[putAt,Zik]
theorem cut_ok (s:List UInt8) (many:Int) (h2:inI many) (hs:s.length<=1099511627776):Zd Tryz.prog 283 [S (T s),I many] (.tup [S (T (cutT s many).1),I (cutT s many).2]):=by
 by_cases hb:many<0\/1099511627776<many
 ·have c1:=Zuc many 0 h2 (by omega)
  simp only[cutT,if_pos hb]
  refine Pm Tryz.func283 λhfit=> ?_
  simp[Tryz.f283]
  have p1_:=c1
  exact WW
 obtain⟨m,rfl⟩:=Int.eq_ofNat_of_zero_le (show 0<=many by omega)
 have c1:=ZwB m 0 (by omega)
 by_cases hc:(4096:Int)<m
 ·simp only[cutT,if_neg hb,if_pos hc]
  have hc2:4096<m:=by omega
  refine Pm Tryz.func283 λhfit=> ?_
  simp[Tryz.f283]
  have s_:=An @hc (@hc2)
  have p1_:=c1
  exact WW
 simp only[cutT,if_neg hb,if_neg hc,Int.toNat_natCast]
 have hc2:¬4096<m:=by omega
 have hp:putAt (List.replicate m (AV.val (Value.int IntKind.u8 0))) 0 ((s.map yb).take (min s.length m))=(s.take m++List.replicate (m -s.length) 0).map yb:=by
  rw[rep_yb,<-List.map_take,Zud]
  congr 1
  simp only[Zik,List.take_zero,List.nil_append,Nat.zero_add,List.drop_replicate,List.length_take]
  rcases Nat.le_total s.length m with q|q
  ·rw[Nat.min_eq_left q,List.take_of_length_le (Nat.le_refl _),List.take_of_length_le q,Nat.min_self]
  ·rw[Nat.min_eq_right q]
   congr 2
   omega
 refine Pm Tryz.func283 λhfit=> ?_
 simp[Tryz.f283]
 have s_:=An @hc (@hc2)
 try simp[s_]
 repeat' ((first|((first|refine Tp ?_|refine Tn ?_|refine T2 ?_ ?_)<;>intro h_ e_ n_)|refine Pg c1 ?_|rw[Ip]|rw[In]|rw[Fz]|rw[Gz]|fail)<;>first|simp[e_,n_,s_]|simp[s_]|skip)
 rw[if_pos ⟨by rw[bytesA_T,List.length_map];rfl,λx hx=>List.all_eq_true.1 (ZmL s) x (List.mem_of_mem_take hx)⟩,bytesA_T,T_size,hp]
 have hXl:(s.take m++List.replicate (m -s.length) 0).length=m:=by simp;omega
 generalize s.take m++List.replicate (m -s.length) 0=X at*
 have hXt:List.take m (X.map yb)=X.map yb:=List.take_of_length_le (by simp[hXl])
 simp[hXl,hXt]
theorem over_eq (s:List UInt8) (k:Nat) (t:List UInt8) (ht:t≠[]):Zik (Zik (List.replicate (max s.length (k+t.length)) 0) 0 s) k t=overL s k t:=by
 have h1:Zik (List.replicate (max s.length (k+t.length)) 0) 0 s=s++List.replicate (k+t.length -s.length) 0:=by
  simp only[Zik,List.take_zero,List.nil_append,Nat.zero_add,List.drop_replicate]
  congr 2;omega
 rw[h1,Zik,overL]
 congr 1
 ·congr 1
  have e:s++List.replicate (k+t.length -s.length) 0=(s++List.replicate (k -s.length) 0)++List.replicate (k+t.length -s.length -(k -s.length)) 0:=by
   rw[List.append_assoc,List.replicate_append_replicate];congr 2;omega
  rw[e,List.take_append_of_le_length (by simp;omega)]
 ·rw[List.drop_append]
  rw[show List.drop (k+t.length -s.length) (List.replicate (k+t.length -s.length) (0:UInt8))=[] by simp]
  simp
theorem Zue (s:List UInt8) (k:Nat) (t:List UInt8):(overL s k t).length=max s.length (k+t.length):=by
 simp only[overL,List.length_append,List.length_take,List.length_replicate,List.length_drop];omega
theorem ZwD (s:List UInt8) (at_:Int) (t:List UInt8) (h1:inI at_) (hs:s.length<=1000000) (ht:t.length<=9223372036854775807):Zd Tryz.prog 280 [S (T s),I at_,S (T t)] (.tup [S (T (writeT s at_ t).1),I (writeT s at_ t).2]):=by
 by_cases hb:at_<0\/1099511627776 -t.length<at_
 ·have c1:=Zuc at_ t.length h1 (by omega)
  simp only[writeT,if_pos hb]
  refine Pm Tryz.func280 λhfit=> ?_
  simp[Tryz.f280]
  have s_:=T_size
  have p1_:=c1
  exact WW
 obtain⟨a,rfl⟩:=Int.eq_ofNat_of_zero_le (show 0<=at_ by omega)
 have c1:=ZwB a t.length (by omega)
 have e1:∀tt ox oy,abin Tryz.prog .add tt ox oy (FL a) (FL t.length)=some (FL (a+t.length)):=λtt ox oy=>ZoJ tt ox oy (by omega)
 have e2:∀tt ox oy,abin Tryz.prog .gtr tt ox oy (FL (a+t.length)) (.val (.float .f64 4661225614328463360))=some (B (decide (4096<a+t.length))):=λtt ox oy=>by
  have:FB 4096=4661225614328463360:=by rw[ZsZ (by decide) (by decide)];decide
  rw[<-this]
  exact ZvZ tt ox oy (by omega) (by decide)
 simp only[writeT,if_neg hb,Int.toNat_natCast]
 by_cases hc:(4096:Int)<a+t.length
 ·have hc2:4096<a+t.length:=by omega
  rw[if_pos hc]
  refine Pm Tryz.func280 λhfit=> ?_
  simp[Tryz.f280]
  have s_:=An @hc (An @hc2 (An @e1 (An @e2 (@T_size))))
  have p1_:=c1
  exact WW
 rw[if_neg hc]
 have hc2:¬4096<a+t.length:=by omega
 by_cases hn:t=[]
 ·subst hn
  have hn2:T ([]:List UInt8)=(⟨#[]⟩:ByteArray):=rfl
  rw[if_pos rfl]
  simp only[List.length_nil,Nat.add_zero] at*
  refine Pm Tryz.func280 λhfit=> ?_
  simp[Tryz.f280]
  have s_:=An @hc (An @hc2 (An @e1 (An @e2 (An @hn2 (@T_size)))))
  have p1_:=c1
  exact WW
 rw[if_neg hn]
 have hn2:¬T t=(⟨#[]⟩:ByteArray):=λh=>hn (by have:=congrArg bs h;rw[bs_T] at this;exact this)
 have hw:IntKind.i64.wrap ((a:Int)+t.length)=(a:Int)+t.length:=by rw[Zg (by omega) (by omega)]
 have hov:=over_eq s a t hn
 have hol:=Zue s a t
 have hl1:(Zik (List.replicate (max s.length (a+t.length)) 0) 0 s).length=max s.length (a+t.length):=by simp[Zik];omega
 generalize hM:max s.length (a+t.length)=M at*
 have hmx:max (s.length:Int) ((a:Int)+t.length)=(M:Int):=by omega
 have hM1:s.length<=M:=by omega
 have hM2:a+t.length<=M:=by omega
 generalize hX:Zik (List.replicate M 0) 0 s=X at*
 generalize overL s a t=Y at*
 have hp:putAt (List.replicate M (AV.val (Value.int IntKind.u8 0))) 0 ((s.map yb).take (min s.length M))=X.map yb:=by
  rw[rep_yb,Nat.min_eq_left hM1,List.take_of_length_le (by simp),Zud,hX]
 have hp2:putAt (X.map yb) a ((t.map yb).take (min t.length (M -a)))=Y.map yb:=by
  rw[Nat.min_eq_left (by omega),List.take_of_length_le (by simp),Zud,hov]
 refine Pm Tryz.func280 λhfit=> ?_
 simp[Tryz.f280]
 have s_:=An @hc (An @hc2 (An @e1 (An @e2 (An @hn2 (An @hw (An @hmx (@T_size)))))))
 try simp[s_]
 repeat' ((first|((first|refine Tp ?_|refine Tn ?_|refine T2 ?_ ?_)<;>intro h_ e_ n_)|refine Pg c1 ?_|rw[Ip]|rw[In]|rw[Fz]|rw[Gz]|fail)<;>first|simp[e_,n_,s_]|simp[s_]|skip)
 rw[if_pos ⟨by rw[bytesA_T,List.length_map],λx hx=>List.all_eq_true.1 (ZmL s) x (List.mem_of_mem_take hx)⟩,bytesA_T,hp]
 have ha:a<=M:=by omega
 have ha2:(a:Int)<=M:=by omega
 simp[ha,ha2,hl1]
 have s_:=An @ha (An @ha2 (An @hl1 (@T_size)))
 try simp[s_]
 repeat' ((first|((first|refine Tp ?_|refine Tn ?_|refine T2 ?_ ?_)<;>intro h_ e_ n_)|rw[Ip]|rw[In]|rw[Fz]|rw[Gz]|fail)<;>first|simp[e_,n_,s_]|simp[s_]|skip)
 rw[if_pos ⟨by rw[bytesA_T,List.length_map],λx hx=>List.all_eq_true.1 (ZmL t) x (List.mem_of_mem_take hx)⟩,bytesA_T,hp2]
 have hXt:List.take M (Y.map yb)=Y.map yb:=List.take_of_length_le (by simp[hol])
 simp[hol,hXt]
end Go.Proofs.YtgpkaoombhobmaaGreat
