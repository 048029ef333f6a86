import Derived.Shelf.Small.Bits
import Derived.Shelf.Small.Strs
import Derived.Shelf.Small.Wraps
import Derived.Shelf.Strconv.Itoa0
import Derived.Shelf.Strings.Search1
import Derived.Shelf.Sort.Plain
import Derived.Shelf.Slices.Equal
import Derived.Ground.Names2Prog
import Derived.Shelf.Slices.CompactI
import Derived.Shelf.Slices.SearchI
import Derived.Shelf.Slices.Cells
import Derived.Shelf.Slices.In.SortNone
import Derived.Shelf.Slices.Empties
import Derived.Test.YtdnfnddlciafmaaGreatProg
namespace Go.Proofs
open Go.Shelf
def Tryz.lays213_ren:Go.Shelf.Ren:=⟨fun|213=>236|265=>248|n=>n,fun|9=>9|3=>3|n=>n,fun|n=>n⟩
def Tryz.lays106_ren:Go.Shelf.Ren:=⟨fun|106=>208|213=>236|265=>248|n=>n,fun|9=>9|3=>3|n=>n,fun|n=>n⟩
theorem Tryz.lays106:Go.Proofs.Lays.n106 Tryz.prog Tryz.lays106_ren:={
 mixed:=by kernel_rfl
 f106:=Tryz.func208.trans (congrArg some (by kernel_rfl))
 f213:=Tryz.func236.trans (congrArg some (by kernel_rfl))
 f265:=Tryz.func248.trans (congrArg some (by kernel_rfl))
 t3:=Tryz.underlying3
 a3:=Tryz.isAgg3
 z3:=Tryz.sizeOf3
 v3:=Tryz.zeroValue3
 t9:=Tryz.underlying9
 a9:=Tryz.isAgg9
 z9:=Tryz.sizeOf9
 v9:=Tryz.zeroValue9}
open Go.RowKit in
theorem Tryz.strings_Compare (a b:ByteArray) (w:World):
  Calls Tryz.prog 208 #[.string a,.string b] w fun e w'=>e= .returned (.int .i64 (Lib.compareBytes a.data.toList b.data.toList))∧w'=w:=Any.strings_Compare Tryz.lays106 a b w
def Tryz.lays137_ren:Go.Shelf.Ren:=⟨fun|137=>219|217=>241|266=>251|n=>n,fun|9=>9|5=>5|3=>3|n=>n,fun|n=>n⟩
theorem Tryz.lays137:Go.Proofs.Lays.n137 Tryz.prog Tryz.lays137_ren:={
 mixed:=by kernel_rfl
 f137:=Tryz.func219.trans (congrArg some (by kernel_rfl))
 f217:=Tryz.func241.trans (congrArg some (by kernel_rfl))
 f266:=Tryz.func251.trans (congrArg some (by kernel_rfl))
 t3:=Tryz.underlying3
 a3:=Tryz.isAgg3
 z3:=Tryz.sizeOf3
 v3:=Tryz.zeroValue3
 t5:=Tryz.underlying5
 a5:=Tryz.isAgg5
 z5:=Tryz.sizeOf5
 v5:=Tryz.zeroValue5
 t9:=Tryz.underlying9
 a9:=Tryz.isAgg9
 z9:=Tryz.sizeOf9
 v9:=Tryz.zeroValue9}
open Go.RowKit in
theorem Tryz.strings_IndexByte (s:ByteArray) (c:Int) (w:World):
  Calls Tryz.prog 219 #[.string s,.int .u8 c] w fun e w'=>e= .returned (.int .i64 (Lib.indexByte s.data.toList c.toNat.toUInt8))∧w'=w:=Any.strings_IndexByte Tryz.lays137 s c w
def Tryz.lays215_ren:Go.Shelf.Ren:=⟨fun|215=>215|n=>n,fun|3=>3|4=>4|n=>n,fun|n=>n⟩
def Tryz.lays122_ren:Go.Shelf.Ren:=⟨fun|122=>205|215=>215|n=>n,fun|3=>3|4=>4|n=>n,fun|n=>n⟩
theorem Tryz.lays122:Go.Proofs.Lays.n122 Tryz.prog Tryz.lays122_ren:={
 mixed:=by kernel_rfl
 f122:=Tryz.func205.trans (congrArg some (by kernel_rfl))
 f215:=Tryz.func215.trans (congrArg some (by kernel_rfl))
 t3:=Tryz.underlying3
 a3:=Tryz.isAgg3
 z3:=Tryz.sizeOf3
 v3:=Tryz.zeroValue3
 t4:=Tryz.underlying4
 a4:=Tryz.isAgg4
 z4:=Tryz.sizeOf4
 v4:=Tryz.zeroValue4}
open Go.RowKit in
theorem Tryz.cmp_Compare_int (x y:Int) (w:World):
  Calls Tryz.prog 205 #[.int .i64 x,.int .i64 y] w fun e w'=>e= .returned (.int .i64 (Lib.compareInt x y))∧w'=w:=Any.cmp_Compare_int Tryz.lays122 x y w
def Tryz.lays189_ren:Go.Shelf.Ren:=⟨fun|189=>152|125=>202|257=>201|128=>234|129=>235|294=>226|295=>227|296=>228|297=>229|298=>230|299=>231|216=>174|300=>232|301=>233|328=>243|329=>244|330=>245|331=>246|332=>247|215=>215|343=>254|n=>n,fun|28=>52|3=>3|46=>197|0=>0|51=>266|53=>268|4=>4|183=>260|182=>259|131=>126|5=>5|9=>9|218=>272|222=>276|228=>280|229=>216|n=>n,fun|n=>n⟩
theorem Tryz.lays189:Go.Proofs.Lays.n189 Tryz.prog Tryz.lays189_ren:={
 mixed:=by kernel_rfl
 f125:=Tryz.func202.trans (congrArg some (by kernel_rfl))
 f128:=Tryz.func234.trans (congrArg some (by kernel_rfl))
 f129:=Tryz.func235.trans (congrArg some (by kernel_rfl))
 f189:=Tryz.func152.trans (congrArg some (by kernel_rfl))
 f215:=Tryz.func215.trans (congrArg some (by kernel_rfl))
 f216:=Tryz.func174.trans (congrArg some (by kernel_rfl))
 f257:=Tryz.func201.trans (congrArg some (by kernel_rfl))
 f294:=Tryz.func226.trans (congrArg some (by kernel_rfl))
 f295:=Tryz.func227.trans (congrArg some (by kernel_rfl))
 f296:=Tryz.func228.trans (congrArg some (by kernel_rfl))
 f297:=Tryz.func229.trans (congrArg some (by kernel_rfl))
 f298:=Tryz.func230.trans (congrArg some (by kernel_rfl))
 f299:=Tryz.func231.trans (congrArg some (by kernel_rfl))
 f300:=Tryz.func232.trans (congrArg some (by kernel_rfl))
 f301:=Tryz.func233.trans (congrArg some (by kernel_rfl))
 f328:=Tryz.func243.trans (congrArg some (by kernel_rfl))
 f329:=Tryz.func244.trans (congrArg some (by kernel_rfl))
 f330:=Tryz.func245.trans (congrArg some (by kernel_rfl))
 f331:=Tryz.func246.trans (congrArg some (by kernel_rfl))
 f332:=Tryz.func247.trans (congrArg some (by kernel_rfl))
 f343:=Tryz.func254.trans (congrArg some (by kernel_rfl))
 t0:=Tryz.underlying0
 a0:=Tryz.isAgg0
 z0:=Tryz.sizeOf0
 v0:=Tryz.zeroValue0
 t3:=Tryz.underlying3
 a3:=Tryz.isAgg3
 z3:=Tryz.sizeOf3
 v3:=Tryz.zeroValue3
 t4:=Tryz.underlying4
 a4:=Tryz.isAgg4
 z4:=Tryz.sizeOf4
 v4:=Tryz.zeroValue4
 t5:=Tryz.underlying5
 a5:=Tryz.isAgg5
 z5:=Tryz.sizeOf5
 v5:=Tryz.zeroValue5
 t9:=Tryz.underlying9
 a9:=Tryz.isAgg9
 z9:=Tryz.sizeOf9
 v9:=Tryz.zeroValue9
 t28:=Tryz.underlying52
 a28:=Tryz.isAgg52
 z28:=Tryz.sizeOf52
 v28:=Tryz.zeroValue52
 t46:=Tryz.underlying197
 a46:=Tryz.isAgg197
 z46:=Tryz.sizeOf197
 v46:=Tryz.zeroValue197
 t51:=Tryz.underlying266
 a51:=Tryz.isAgg266
 z51:=Tryz.sizeOf266
 v51:=Tryz.zeroValue266
 t53:=Tryz.underlying268
 a53:=Tryz.isAgg268
 z53:=Tryz.sizeOf268
 v53:=Tryz.zeroValue268
 t131:=Tryz.underlying126
 a131:=Tryz.isAgg126
 z131:=Tryz.sizeOf126
 v131:=Tryz.zeroValue126
 t182:=Tryz.underlying259
 a182:=Tryz.isAgg259
 z182:=Tryz.sizeOf259
 v182:=Tryz.zeroValue259
 t183:=Tryz.underlying260
 a183:=Tryz.isAgg260
 z183:=Tryz.sizeOf260
 v183:=Tryz.zeroValue260
 t218:=Tryz.underlying272
 a218:=Tryz.isAgg272
 z218:=Tryz.sizeOf272
 v218:=Tryz.zeroValue272
 t222:=Tryz.underlying276
 a222:=Tryz.isAgg276
 z222:=Tryz.sizeOf276
 v222:=Tryz.zeroValue276
 t228:=Tryz.underlying280
 a228:=Tryz.isAgg280
 z228:=Tryz.sizeOf280
 v228:=Tryz.zeroValue280
 t229:=Tryz.underlying216
 a229:=Tryz.isAgg216
 z229:=Tryz.sizeOf216
 v229:=Tryz.zeroValue216}
open Go.Sort Go.RowKit in
theorem Tryz.slices_Sort_int (blk off cap:Nat) (zs:List Int) (w:World) (hH:Holds (Value.int .i64) w blk off zs.toArray) (hblk:blk<w.heap.size) (hsz:zs.length<4611686018427387904):
  Calls Tryz.prog 152 #[.slice (some ⟨blk,off,none⟩) zs.length cap] w fun e w'=>
   e= .returned (.tuple #[])∧∃n os,w'=grow (putRow (Value.int .i64) (Sort.ahead w n) blk off (zs.mergeSort fun x y=>decide (x≤y)).toArray) os:=Any.slices_Sort_int Tryz.lays189 blk off cap zs w hH hblk hsz
def Tryz.laysNm220_ren:Go.Shelf.Ren:=⟨fun|20=>153|n=>n,fun|22=>52|3=>3|4=>4|0=>0|n=>n,fun|n=>n⟩
theorem Tryz.laysNm220:Go.Proofs.Lays2.n20 Tryz.prog Tryz.laysNm220_ren:={
 mixed:=by kernel_rfl
 f20:=Tryz.func153.trans (congrArg some (by kernel_rfl))
 t0:=Tryz.underlying0
 a0:=Tryz.isAgg0
 z0:=Tryz.sizeOf0
 v0:=Tryz.zeroValue0
 t3:=Tryz.underlying3
 a3:=Tryz.isAgg3
 z3:=Tryz.sizeOf3
 v3:=Tryz.zeroValue3
 t4:=Tryz.underlying4
 a4:=Tryz.isAgg4
 z4:=Tryz.sizeOf4
 v4:=Tryz.zeroValue4
 t22:=Tryz.underlying52
 a22:=Tryz.isAgg52
 z22:=Tryz.sizeOf52
 v22:=Tryz.zeroValue52
 i3:=by kernel_rfl}
open Go.RowKit Go.Lib Go.Sort in
theorem Tryz.slices_Compact_int (blk off cap:Nat) (zs:List Int) (w:World) (hH:Holds (Value.int .i64) w blk off zs.toArray) (hsz:zs.length≤9223372036854775807) (hcap:zs.length≤cap):
  Calls Tryz.prog 153 #[.slice (some ⟨blk,off,none⟩) zs.length cap] w fun e w'=>e= .returned (.slice (some ⟨blk,off,none⟩) (Lib.compact zs).length cap)∧∃q,w'=putRow (Value.int .i64) (Sort.ahead w q) blk off (Lib.compact zs++List.replicate (zs.length -(Lib.compact zs).length) 0).toArray:=Any.slices_Compact_int Tryz.laysNm220 blk off cap zs w hH hsz hcap
open Go.RowKit Go.Lib Go.Sort in
theorem Tryz.slices_Compact_int_empty (a:Option Addr) (cap:Nat) (w:World):
  Calls Tryz.prog 153 #[.slice a 0 cap] w fun e w'=>e= .returned (.slice a 0 cap)∧w'=w:=Any.slices_Compact_int_empty Tryz.laysNm220 a cap w
open Go.RowKit Go.Sort in
theorem Tryz.slices_Sort_int_none (p:Option Addr) (cap:Nat) (w:World):
  Calls Tryz.prog 152 #[.slice p 0 cap] w fun e w'=>e= .returned (.tuple #[])∧w'=w:=Any.slices_Sort_int_none Tryz.lays189 p cap w
end Go.Proofs
