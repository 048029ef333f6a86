/- The records that clients and servers hand each other, as plain Lean, and how their cells lie. -/
import Derived.Test.YtjelapkglkcoiaaCxV
set_option linter.unusedVariables false
namespace Go.Cx

abbrev I (n : Int) : AV := .val (.int .i64 n)
abbrev S (s : ByteArray) : AV := .val (.string s)
abbrev B (b : Bool) : AV := .val (.bool b)
/-- A row of things of several cells. -/
abbrev encL {α : Type} (enc : α → List AV) (l : List α) : AV := .sl false l.length (l.flatMap enc)
/-- A row of things of one cell. -/
abbrev enc1 {α : Type} (enc : α → AV) (l : List α) : AV := .sl false l.length (l.map enc)

structure CallR where
  (kind ino to_ at_ many : Int) (name name2 text : ByteArray)
  deriving DecidableEq
def CallR.enc (c : CallR) : List AV := [I c.kind, I c.ino, I c.to_, I c.at_, I c.many, S c.name, S c.name2, S c.text]
def CallR.zero : CallR := ⟨0, 0, 0, 0, 0, .empty, .empty, .empty⟩
abbrev encCalls (l : List CallR) : AV := encL CallR.enc l

structure ReplyR where
  (e a b n : Int) (text : ByteArray) (names : List ByteArray)
  deriving DecidableEq
def ReplyR.enc (c : ReplyR) : List AV := [I c.e, I c.a, I c.b, I c.n, S c.text, enc1 S c.names]
abbrev encReplies (l : List ReplyR) : AV := encL ReplyR.enc l

structure DoneR where
  (seq : Int) (yes : Bool) (e : Int) (l : List ReplyR)
  deriving DecidableEq
def DoneR.enc (c : DoneR) : List AV := [I c.seq, B c.yes, I c.e, encReplies c.l]

structure ClientR where
  (me epoch seq : Int) (jobs : List (List CallR)) (phase n stamp : Int) (told : List DoneR) (now : List ReplyR)
  deriving DecidableEq
def ClientR.enc (c : ClientR) : List AV := [I c.me, I c.epoch, I c.seq, enc1 encCalls c.jobs, I c.phase, I c.n, I c.stamp, encL DoneR.enc c.told, encReplies c.now]

structure RspR where
  (kind client epoch seq n : Int) (r : ReplyR)
def RspR.enc (c : RspR) : List AV := [I c.kind, I c.client, I c.epoch, I c.seq, I c.n] ++ c.r.enc

structure MsgR where
  (kind client epoch seq n stamp : Int) (c : CallR)
  deriving DecidableEq
def MsgR.enc (c : MsgR) : List AV := [I c.kind, I c.client, I c.epoch, I c.seq, I c.n, I c.stamp] ++ c.c.enc
def MsgR.zero : MsgR := ⟨0, 0, 0, 0, 0, 0, .zero⟩

theorem all_flat {α : Type} {enc : α → List AV} (h : ∀ a, (enc a).all neat = true) (l : List α) : (l.flatMap enc).all neat = true := by
  simp only [List.all_flatMap]; simpa using fun a _ => by simpa using h a
theorem all_map1 {α : Type} {enc : α → AV} (h : ∀ a, neat (enc a) = true) (l : List α) : (l.map enc).all neat = true := by
  simp only [List.all_map]; simpa using fun a _ => h a
@[simp] theorem CallR.neat (c : CallR) : c.enc.all neat = true := by simp [CallR.enc]
@[simp] theorem all_calls (l : List CallR) : (l.flatMap CallR.enc).all neat = true := all_flat CallR.neat l
theorem neat_calls (l : List CallR) : neat (encCalls l) = true := by simp
@[simp] theorem all_names (l : List ByteArray) : (l.map S).all neat = true := all_map1 (by simp) l
@[simp] theorem ReplyR.neat (c : ReplyR) : c.enc.all neat = true := by simp [ReplyR.enc]
@[simp] theorem all_replies (l : List ReplyR) : (l.flatMap ReplyR.enc).all neat = true := all_flat ReplyR.neat l
theorem neat_replies (l : List ReplyR) : neat (encReplies l) = true := by simp
@[simp] theorem DoneR.neat (c : DoneR) : c.enc.all neat = true := by simp [DoneR.enc]
@[simp] theorem all_told (l : List DoneR) : (l.flatMap DoneR.enc).all neat = true := all_flat DoneR.neat l
@[simp] theorem all_jobs (l : List (List CallR)) : (l.map encCalls).all neat = true := all_map1 neat_calls l
@[simp] theorem ClientR.neat (c : ClientR) : c.enc.all neat = true := by simp [ClientR.enc]
@[simp] theorem RspR.neat (c : RspR) : c.enc.all neat = true := by simp [RspR.enc]
@[simp] theorem MsgR.neat (c : MsgR) : c.enc.all neat = true := by simp [MsgR.enc]

theorem len_flat {α : Type} {enc : α → List AV} {k : Nat} (h : ∀ a, (enc a).length = k) (l : List α) : (l.flatMap enc).length = l.length * k := by
  induction l with
  | nil => simp
  | cons a l ih => simp [h, ih, Nat.add_mul]; omega
@[simp high] theorem len_calls (l : List CallR) : (l.flatMap CallR.enc).length = l.length * 8 := len_flat (enc := CallR.enc) (k := 8) (fun _ => rfl) l
@[simp high] theorem len_replies (l : List ReplyR) : (l.flatMap ReplyR.enc).length = l.length * 6 := len_flat (enc := ReplyR.enc) (k := 6) (fun _ => rfl) l
@[simp high] theorem len_told (l : List DoneR) : (l.flatMap DoneR.enc).length = l.length * 4 := len_flat (enc := DoneR.enc) (k := 4) (fun _ => rfl) l
theorem take_flat {α : Type} {enc : α → List AV} {k : Nat} (h : ∀ a, (enc a).length = k) : ∀ (l : List α) (n : Nat), (l.flatMap enc).take (n * k) = (l.take n).flatMap enc
  | [], n => by simp
  | a :: l, 0 => by simp
  | a :: l, n + 1 => by
    simp only [List.flatMap_cons, List.take_succ_cons]
    rw [Nat.add_mul, Nat.one_mul, Nat.add_comm, List.take_append, ← take_flat h l n]
    rw [List.take_of_length_le (by rw [h]; omega), h]
    congr 2; omega
theorem drop_flat {α : Type} {enc : α → List AV} {k : Nat} (h : ∀ a, (enc a).length = k) : ∀ (l : List α) (n : Nat), (l.flatMap enc).drop (n * k) = (l.drop n).flatMap enc
  | [], n => by simp
  | a :: l, 0 => by simp
  | a :: l, n + 1 => by
    simp only [List.flatMap_cons, List.drop_succ_cons]
    rw [Nat.add_mul, Nat.one_mul, Nat.add_comm, List.drop_append, ← drop_flat h l n]
    rw [List.drop_eq_nil_of_le (by rw [h]; omega), h, List.nil_append]
    congr 1; omega
/-- The i-th thing's cells. -/
theorem cells_at {α : Type} {enc : α → List AV} {k : Nat} (h : ∀ a, (enc a).length = k) (l : List α) (i : Nat) (a : α) (hi : l[i]? = some a) : ((l.flatMap enc).drop (i * k)).take k = enc a := by
  rw [drop_flat h]
  have : l.drop i = a :: l.drop (i + 1) := by
    have hl := (List.getElem?_eq_some_iff.1 hi)
    rw [List.drop_eq_getElem_cons hl.1, hl.2]
  rw [this, List.flatMap_cons, List.take_append_of_le_length (by rw [h]; omega), List.take_of_length_le (by rw [h]; omega)]

theorem take_all {α : Type} {enc : α → List AV} {k : Nat} (h : ∀ a, (enc a).length = k) (l : List α) : (l.flatMap enc).take (l.length * k) = l.flatMap enc := List.take_of_length_le (by rw [len_flat h]; omega)
@[simp high] theorem take_calls (l : List CallR) : (l.flatMap CallR.enc).take (l.length * 8) = l.flatMap CallR.enc := take_all (enc := CallR.enc) (k := 8) (fun _ => rfl) l
@[simp high] theorem take_replies (l : List ReplyR) : (l.flatMap ReplyR.enc).take (l.length * 6) = l.flatMap ReplyR.enc := take_all (enc := ReplyR.enc) (k := 6) (fun _ => rfl) l
@[simp high] theorem take_told (l : List DoneR) : (l.flatMap DoneR.enc).take (l.length * 4) = l.flatMap DoneR.enc := take_all (enc := DoneR.enc) (k := 4) (fun _ => rfl) l

@[simp high] theorem lenc_call (x : CallR) : x.enc.length = 8 := rfl
@[simp high] theorem takec_call (x : CallR) : x.enc.take 8 = x.enc := List.take_of_length_le (Nat.le_refl _)
@[simp high] theorem at_call {l : List CallR} {i : Nat} (h : i < l.length) : List.take 8 (List.drop (i * 8) (l.flatMap CallR.enc)) = (l[i]).enc := cells_at (enc := CallR.enc) (k := 8) (fun _ => rfl) l i l[i] (by simp [h])

@[simp high] theorem lenc_reply (x : ReplyR) : x.enc.length = 6 := rfl
@[simp high] theorem takec_reply (x : ReplyR) : x.enc.take 6 = x.enc := List.take_of_length_le (Nat.le_refl _)
@[simp high] theorem at_reply {l : List ReplyR} {i : Nat} (h : i < l.length) : List.take 6 (List.drop (i * 6) (l.flatMap ReplyR.enc)) = (l[i]).enc := cells_at (enc := ReplyR.enc) (k := 6) (fun _ => rfl) l i l[i] (by simp [h])

@[simp high] theorem lenc_done (x : DoneR) : x.enc.length = 4 := rfl
@[simp high] theorem takec_done (x : DoneR) : x.enc.take 4 = x.enc := List.take_of_length_le (Nat.le_refl _)
@[simp high] theorem at_done {l : List DoneR} {i : Nat} (h : i < l.length) : List.take 4 (List.drop (i * 4) (l.flatMap DoneR.enc)) = (l[i]).enc := cells_at (enc := DoneR.enc) (k := 4) (fun _ => rfl) l i l[i] (by simp [h])

theorem one_flat {α : Type} {enc : α → List AV} (h : ∀ a, (enc a).all isOne = true) (l : List α) : (l.flatMap enc).all isOne = true := by
  simp only [List.all_flatMap]; simpa using fun a _ => by simpa using h a
theorem one_map1 {α : Type} {enc : α → AV} (h : ∀ a, isOne (enc a) = true) (l : List α) : (l.map enc).all isOne = true := by
  simp only [List.all_map]; simpa using fun a _ => h a
@[simp] theorem CallR.one (c : CallR) : c.enc.all isOne = true := rfl
@[simp] theorem ReplyR.one (c : ReplyR) : c.enc.all isOne = true := rfl
@[simp] theorem DoneR.one (c : DoneR) : c.enc.all isOne = true := rfl
@[simp high] theorem one_calls (l : List CallR) : (l.flatMap CallR.enc).all isOne = true := one_flat CallR.one l
@[simp high] theorem one_replies (l : List ReplyR) : (l.flatMap ReplyR.enc).all isOne = true := one_flat ReplyR.one l
@[simp high] theorem one_told (l : List DoneR) : (l.flatMap DoneR.enc).all isOne = true := one_flat DoneR.one l
@[simp high] theorem one_names (l : List ByteArray) : (l.map S).all isOne = true := one_map1 (fun _ => rfl) l

theorem ReplyR.eq_iff (a b : ReplyR) : a = b ↔ a.names = b.names ∧ a.e = b.e ∧ a.a = b.a ∧ a.b = b.b ∧ a.n = b.n ∧ a.text = b.text := by
  cases a; cases b; simp only [ReplyR.mk.injEq]
  constructor
  · rintro ⟨a, b, c, d, e, f⟩; exact ⟨f, a, b, c, d, e⟩
  · rintro ⟨f, a, b, c, d, e⟩; exact ⟨a, b, c, d, e, f⟩

/-! ### numbers in their range -/
def CallR.wf (c : CallR) : Prop := inI c.kind ∧ inI c.ino ∧ inI c.to_ ∧ inI c.at_ ∧ inI c.many ∧ c.name.size ≤ maxLen ∧ c.name2.size ≤ maxLen ∧ c.text.size ≤ maxLen
def ReplyR.wf (c : ReplyR) : Prop := inI c.e ∧ inI c.a ∧ inI c.b ∧ inI c.n ∧ c.text.size ≤ maxLen ∧ ∀ x ∈ c.names, x.size ≤ maxLen
def DoneR.wf (c : DoneR) : Prop := inI c.seq ∧ inI c.e ∧ ∀ x ∈ c.l, x.wf
def ClientR.wf (c : ClientR) : Prop := inI c.me ∧ inI c.epoch ∧ inI c.seq ∧ (∀ l ∈ c.jobs, ∀ x ∈ l, x.wf) ∧ inI c.phase ∧ inI c.n ∧ inI c.stamp ∧ (∀ x ∈ c.told, x.wf) ∧ (∀ x ∈ c.now, x.wf)
def RspR.wf (c : RspR) : Prop := inI c.kind ∧ inI c.client ∧ inI c.epoch ∧ inI c.seq ∧ inI c.n ∧ c.r.wf
section
variable {P : Program} {W : World}
theorem opn_call {t i s : TypeId} (ht : tstruct P t = some [(0, i), (1, i), (2, i), (3, i), (4, i), (5, s), (6, s), (7, s)]) (h8 : tsize P t = some 8) (hi : P.underlying i = some (.int .i64)) (hi1 : tsize P i = some 1) (hs : P.underlying s = some .string) (hs1 : tsize P s = some 1) :
    Opn P W t (fun as => ∃ c : CallR, as = c.enc ∧ c.wf) :=
  (opn_struct ht h8 (.cons (opn_int hi) hi1 (.cons (opn_int hi) hi1 (.cons (opn_int hi) hi1 (.cons (opn_int hi) hi1 (.cons (opn_int hi) hi1 (.cons (opn_string hs) hs1 (.cons (opn_string hs) hs1 (.cons (opn_string hs) hs1 .nil))))))))).mono fun as h => by
    obtain ⟨_, _, ⟨a, rfl, ha⟩, ⟨_, _, ⟨b, rfl, hb⟩, ⟨_, _, ⟨c, rfl, hc⟩, ⟨_, _, ⟨d, rfl, hd⟩, ⟨_, _, ⟨e, rfl, he⟩, ⟨_, _, ⟨f, rfl, hf⟩, ⟨_, _, ⟨g, rfl, hg⟩, ⟨_, _, ⟨k, rfl, hk⟩, rfl, rfl⟩, rfl⟩, rfl⟩, rfl⟩, rfl⟩, rfl⟩, rfl⟩, rfl⟩ := h
    exact ⟨⟨a, b, c, d, e, f, g, k⟩, rfl, ha, hb, hc, hd, he, hf, hg, hk⟩
theorem opn_reply {t e i s ss : TypeId} (ht : tstruct P t = some [(0, e), (1, i), (2, i), (3, i), (4, s), (5, ss)]) (h8 : tsize P t = some 6) (hi : P.underlying i = some (.int .i64)) (hi1 : tsize P i = some 1) (he : P.underlying e = some (.int .i64)) (he1 : tsize P e = some 1) (hs : P.underlying s = some .string) (hs1 : tsize P s = some 1) (hss : telem P ss = some s) (hss1 : tsize P ss = some 1) :
    Opn P W t (fun as => ∃ c : ReplyR, as = c.enc ∧ c.wf) :=
  (opn_struct ht h8 (.cons (opn_int he) he1 (.cons (opn_int hi) hi1 (.cons (opn_int hi) hi1 (.cons (opn_int hi) hi1 (.cons (opn_string hs) hs1 (.cons (opn_rows1 (enc := S) (p := fun x => x.size ≤ maxLen) hss hs1 (opn_string hs)) hss1 .nil))))))).mono fun as h => by
    obtain ⟨_, _, ⟨a, rfl, ha⟩, ⟨_, _, ⟨b, rfl, hb⟩, ⟨_, _, ⟨c, rfl, hc⟩, ⟨_, _, ⟨d, rfl, hd⟩, ⟨_, _, ⟨e, rfl, he⟩, ⟨_, _, ⟨f, rfl, hf⟩, rfl, rfl⟩, rfl⟩, rfl⟩, rfl⟩, rfl⟩, rfl⟩ := h
    exact ⟨⟨a, b, c, d, e, f⟩, rfl, ha, hb, hc, hd, he, hf⟩
theorem opn_done {t i b e rs r : TypeId} (ht : tstruct P t = some [(0, i), (1, b), (2, e), (3, rs)]) (h8 : tsize P t = some 4) (hi : P.underlying i = some (.int .i64)) (hi1 : tsize P i = some 1) (he : P.underlying e = some (.int .i64)) (he1 : tsize P e = some 1) (hb : P.underlying b = some .bool) (hb1 : tsize P b = some 1) (hrs : telem P rs = some r) (hrs1 : tsize P rs = some 1) (hr6 : tsize P r = some 6)
    (hr : Opn P W r (fun as => ∃ c : ReplyR, as = c.enc ∧ c.wf)) : Opn P W t (fun as => ∃ c : DoneR, as = c.enc ∧ c.wf) :=
  (opn_struct ht h8 (.cons (opn_int hi) hi1 (.cons (opn_bool hb) hb1 (.cons (opn_int he) he1 (.cons (opn_rows hrs hr6 (by omega) hr) hrs1 .nil))))).mono fun as h => by
    obtain ⟨_, _, ⟨a, rfl, ha⟩, ⟨_, _, ⟨b, rfl⟩, ⟨_, _, ⟨c, rfl, hc⟩, ⟨_, _, ⟨d, rfl, hd⟩, rfl, rfl⟩, rfl⟩, rfl⟩, rfl⟩ := h
    exact ⟨⟨a, b, c, d⟩, rfl, ha, hc, hd⟩
theorem opn_client {t i js cl c d ds r rs : TypeId} (ht : tstruct P t = some [(0, i), (1, i), (2, i), (3, js), (4, i), (5, i), (6, i), (7, ds), (8, rs)]) (h9 : tsize P t = some 9) (hi : P.underlying i = some (.int .i64)) (hi1 : tsize P i = some 1)
    (hjs : telem P js = some cl) (hjs1 : tsize P js = some 1) (hcl : telem P cl = some c) (hcl1 : tsize P cl = some 1) (hc8 : tsize P c = some 8) (hds : telem P ds = some d) (hds1 : tsize P ds = some 1) (hd4 : tsize P d = some 4) (hrs : telem P rs = some r) (hrs1 : tsize P rs = some 1) (hr6 : tsize P r = some 6)
    (hc : Opn P W c (fun as => ∃ c : CallR, as = c.enc ∧ c.wf)) (hd : Opn P W d (fun as => ∃ c : DoneR, as = c.enc ∧ c.wf)) (hr : Opn P W r (fun as => ∃ c : ReplyR, as = c.enc ∧ c.wf)) : Opn P W t (fun as => ∃ c : ClientR, as = c.enc ∧ c.wf) :=
  (opn_struct ht h9 (.cons (opn_int hi) hi1 (.cons (opn_int hi) hi1 (.cons (opn_int hi) hi1 (.cons (opn_rows1 (enc := encCalls) (p := fun l => ∀ x ∈ l, x.wf) hjs hcl1 (opn_rows hcl hc8 (by omega) hc)) hjs1 (.cons (opn_int hi) hi1 (.cons (opn_int hi) hi1 (.cons (opn_int hi) hi1 (.cons (opn_rows hds hd4 (by omega) hd) hds1 (.cons (opn_rows hrs hr6 (by omega) hr) hrs1 .nil)))))))))).mono fun as h => by
    obtain ⟨_, _, ⟨a, rfl, ha⟩, ⟨_, _, ⟨b, rfl, hb⟩, ⟨_, _, ⟨c, rfl, hc⟩, ⟨_, _, ⟨d, rfl, hd⟩, ⟨_, _, ⟨e, rfl, he⟩, ⟨_, _, ⟨f, rfl, hf⟩, ⟨_, _, ⟨g, rfl, hg⟩, ⟨_, _, ⟨k, rfl, hk⟩, ⟨_, _, ⟨l, rfl, hl⟩, rfl, rfl⟩, rfl⟩, rfl⟩, rfl⟩, rfl⟩, rfl⟩, rfl⟩, rfl⟩, rfl⟩ := h
    exact ⟨⟨a, b, c, d, e, f, g, k, l⟩, rfl, ha, hb, hc, hd, he, hf, hg, hk, hl⟩
theorem opn_rsp {t i r : TypeId} (ht : tstruct P t = some [(0, i), (1, i), (2, i), (3, i), (4, i), (5, r)]) (h11 : tsize P t = some 11) (hi : P.underlying i = some (.int .i64)) (hi1 : tsize P i = some 1) (hr6 : tsize P r = some 6) (hr : Opn P W r (fun as => ∃ c : ReplyR, as = c.enc ∧ c.wf)) :
    Opn P W t (fun as => ∃ c : RspR, as = c.enc ∧ c.wf) :=
  (opn_struct ht h11 (.cons (opn_int hi) hi1 (.cons (opn_int hi) hi1 (.cons (opn_int hi) hi1 (.cons (opn_int hi) hi1 (.cons (opn_int hi) hi1 (.cons hr hr6 .nil))))))).mono fun as h => by
    obtain ⟨_, _, ⟨a, rfl, ha⟩, ⟨_, _, ⟨b, rfl, hb⟩, ⟨_, _, ⟨c, rfl, hc⟩, ⟨_, _, ⟨d, rfl, hd⟩, ⟨_, _, ⟨e, rfl, he⟩, ⟨_, _, ⟨f, rfl, hf⟩, rfl, rfl⟩, rfl⟩, rfl⟩, rfl⟩, rfl⟩, rfl⟩ := h
    exact ⟨⟨a, b, c, d, e, f⟩, by simp [RspR.enc], ha, hb, hc, hd, he, hf⟩
end

/-! ### records compared -/
def CallR.vals (c : CallR) : List Value := [.int .i64 c.kind, .int .i64 c.ino, .int .i64 c.to_, .int .i64 c.at_, .int .i64 c.many, .string c.name, .string c.name2, .string c.text]
abbrev callK : List TypeDesc := [.int .i64, .int .i64, .int .i64, .int .i64, .int .i64, .string, .string, .string]
theorem CallR.kinds (c : CallR) : Kinds callK c.vals := .cons rfl (.cons rfl (.cons rfl (.cons rfl (.cons rfl (.cons rfl (.cons rfl (.cons rfl .nil)))))))
theorem CallR.vals_eq (a b : CallR) : a.vals = b.vals ↔ a = b := by
  cases a; cases b; simp [CallR.vals]
def MsgR.vals (c : MsgR) : List Value := [.int .i64 c.kind, .int .i64 c.client, .int .i64 c.epoch, .int .i64 c.seq, .int .i64 c.n, .int .i64 c.stamp] ++ c.c.vals
theorem MsgR.kinds (c : MsgR) : Kinds ([.int .i64, .int .i64, .int .i64, .int .i64, .int .i64, .int .i64] ++ callK) c.vals := .cons rfl (.cons rfl (.cons rfl (.cons rfl (.cons rfl (.cons rfl c.c.kinds)))))
theorem MsgR.vals_eq (a b : MsgR) : a.vals = b.vals ↔ a = b := by
  cases a with | mk a1 a2 a3 a4 a5 a6 ac => cases b with | mk b1 b2 b3 b4 b5 b6 bc =>
    simp only [MsgR.vals, List.cons_append, List.nil_append, List.cons.injEq, Value.int.injEq, true_and, CallR.vals_eq, MsgR.mk.injEq]
section
variable {P : Program} {t : TypeId} (ox oy : Operand)
@[simp] theorem call_eql (ht : tflat P t = some callK) (hg : tagg P t = some true) (a b : CallR) : abin P .eql t ox oy (.agg a.enc) (.agg b.enc) = some (.val (.bool (decide (a = b)))) := by
  have := (bin_agg ht hg a.kinds b.kinds ox oy).1
  have e : decide (a.vals = b.vals) = decide (a = b) := by rw [decide_eq_decide]; exact CallR.vals_eq a b
  rw [e] at this; exact this
@[simp] theorem call_neq (ht : tflat P t = some callK) (hg : tagg P t = some true) (a b : CallR) : abin P .neq t ox oy (.agg a.enc) (.agg b.enc) = some (.val (.bool (!decide (a = b)))) := by
  have := (bin_agg ht hg a.kinds b.kinds ox oy).2
  have e : decide (a.vals = b.vals) = decide (a = b) := by rw [decide_eq_decide]; exact CallR.vals_eq a b
  rw [e] at this; exact this
@[simp] theorem msg_eql (ht : tflat P t = some ([.int .i64, .int .i64, .int .i64, .int .i64, .int .i64, .int .i64] ++ callK)) (hg : tagg P t = some true) (a b : MsgR) : abin P .eql t ox oy (.agg a.enc) (.agg b.enc) = some (.val (.bool (decide (a = b)))) := by
  have := (bin_agg ht hg a.kinds b.kinds ox oy).1
  have e : decide (a.vals = b.vals) = decide (a = b) := by rw [decide_eq_decide]; exact MsgR.vals_eq a b
  rw [e] at this; exact this
end
end Go.Cx
