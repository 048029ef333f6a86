/- The records that clients and servers hand each other, as plain Lean, and how their cells lie. The other records of the program, as plain Lean, and how their cells lie. Printed by recs.py. Less is told, at the beginning and at the end of a call; slices.overlaps. Tests, calls and facts, each met by one name. A row that is nil is one's own, where it lies in a block. Rows of records, changed in place. Printed by recs.py. What is handed to the laws, as plain Lean. Printed by recs.py. -/
import Derived.Test.YtilmfmjcemfoeaaBd
set_option linter.unusedVariables false
namespace Go.Cx

abbrev I (n : Int) : AV := .val (.int .i64 n)
abbrev S (s : ByteArray) : AV := .val (.string s)
abbrev B (b : Bool) : AV := .val (.bool b)
/-- A row of things of several cells. -/
abbrev encL {α : Type} (enc : α → List AV) (l : List α) : AV := .sl false l.length (l.flatMap enc)
/-- A row of things of one cell. -/
abbrev enc1 {α : Type} (enc : α → AV) (l : List α) : AV := .sl false l.length (l.map enc)

structure CallR where
  (kind ino to_ at_ many : Int) (name name2 text : ByteArray)
  deriving DecidableEq
def CallR.enc (c : CallR) : List AV := [I c.kind, I c.ino, I c.to_, I c.at_, I c.many, S c.name, S c.name2, S c.text]
def CallR.zero : CallR := ⟨0, 0, 0, 0, 0, .empty, .empty, .empty⟩
abbrev encCalls (l : List CallR) : AV := encL CallR.enc l

structure ReplyR where
  (e a b n : Int) (text : ByteArray) (names : List ByteArray)
  deriving DecidableEq
def ReplyR.enc (c : ReplyR) : List AV := [I c.e, I c.a, I c.b, I c.n, S c.text, enc1 S c.names]
abbrev encReplies (l : List ReplyR) : AV := encL ReplyR.enc l

structure DoneR where
  (seq : Int) (yes : Bool) (e : Int) (l : List ReplyR)
  deriving DecidableEq
def DoneR.enc (c : DoneR) : List AV := [I c.seq, B c.yes, I c.e, encReplies c.l]

structure ClientR where
  (me epoch seq : Int) (jobs : List (List CallR)) (phase n stamp : Int) (told : List DoneR) (now : List ReplyR)
  deriving DecidableEq
def ClientR.enc (c : ClientR) : List AV := [I c.me, I c.epoch, I c.seq, enc1 encCalls c.jobs, I c.phase, I c.n, I c.stamp, encL DoneR.enc c.told, encReplies c.now]

structure RspR where
  (kind client epoch seq n : Int) (r : ReplyR)
def RspR.enc (c : RspR) : List AV := [I c.kind, I c.client, I c.epoch, I c.seq, I c.n] ++ c.r.enc

structure MsgR where
  (kind client epoch seq n stamp : Int) (c : CallR)
  deriving DecidableEq
def MsgR.enc (c : MsgR) : List AV := [I c.kind, I c.client, I c.epoch, I c.seq, I c.n, I c.stamp] ++ c.c.enc
def MsgR.zero : MsgR := ⟨0, 0, 0, 0, 0, 0, .zero⟩

theorem all_flat {α : Type} {enc : α → List AV} (h : ∀ a, (enc a).all neat = true) (l : List α) : (l.flatMap enc).all neat = true := by
  simp only [List.all_flatMap]; simpa using fun a _ => by simpa using h a
theorem all_map1 {α : Type} {enc : α → AV} (h : ∀ a, neat (enc a) = true) (l : List α) : (l.map enc).all neat = true := by
  simp only [List.all_map]; simpa using fun a _ => h a
@[simp] theorem CallR.neat (c : CallR) : c.enc.all neat = true := by simp [CallR.enc]
@[simp] theorem all_calls (l : List CallR) : (l.flatMap CallR.enc).all neat = true := all_flat CallR.neat l
theorem neat_calls (l : List CallR) : neat (encCalls l) = true := by simp
@[simp] theorem all_names (l : List ByteArray) : (l.map S).all neat = true := all_map1 (by simp) l
@[simp] theorem ReplyR.neat (c : ReplyR) : c.enc.all neat = true := by simp [ReplyR.enc]
@[simp] theorem all_replies (l : List ReplyR) : (l.flatMap ReplyR.enc).all neat = true := all_flat ReplyR.neat l
theorem neat_replies (l : List ReplyR) : neat (encReplies l) = true := by simp
@[simp] theorem DoneR.neat (c : DoneR) : c.enc.all neat = true := by simp [DoneR.enc]
@[simp] theorem all_told (l : List DoneR) : (l.flatMap DoneR.enc).all neat = true := all_flat DoneR.neat l
@[simp] theorem all_jobs (l : List (List CallR)) : (l.map encCalls).all neat = true := all_map1 neat_calls l
@[simp] theorem ClientR.neat (c : ClientR) : c.enc.all neat = true := by simp [ClientR.enc]
@[simp] theorem RspR.neat (c : RspR) : c.enc.all neat = true := by simp [RspR.enc]
@[simp] theorem MsgR.neat (c : MsgR) : c.enc.all neat = true := by simp [MsgR.enc]

theorem len_flat {α : Type} {enc : α → List AV} {k : Nat} (h : ∀ a, (enc a).length = k) (l : List α) : (l.flatMap enc).length = l.length * k := by
  induction l with
  | nil => simp
  | cons a l ih => simp [h, ih, Nat.add_mul]; omega
@[simp high] theorem len_calls (l : List CallR) : (l.flatMap CallR.enc).length = l.length * 8 := len_flat (enc := CallR.enc) (k := 8) (fun _ => rfl) l
@[simp high] theorem len_replies (l : List ReplyR) : (l.flatMap ReplyR.enc).length = l.length * 6 := len_flat (enc := ReplyR.enc) (k := 6) (fun _ => rfl) l
@[simp high] theorem len_told (l : List DoneR) : (l.flatMap DoneR.enc).length = l.length * 4 := len_flat (enc := DoneR.enc) (k := 4) (fun _ => rfl) l
theorem take_flat {α : Type} {enc : α → List AV} {k : Nat} (h : ∀ a, (enc a).length = k) : ∀ (l : List α) (n : Nat), (l.flatMap enc).take (n * k) = (l.take n).flatMap enc
  | [], n => by simp
  | a :: l, 0 => by simp
  | a :: l, n + 1 => by
    simp only [List.flatMap_cons, List.take_succ_cons]
    rw [Nat.add_mul, Nat.one_mul, Nat.add_comm, List.take_append, ← take_flat h l n]
    rw [List.take_of_length_le (by rw [h]; omega), h]
    congr 2; omega
theorem drop_flat {α : Type} {enc : α → List AV} {k : Nat} (h : ∀ a, (enc a).length = k) : ∀ (l : List α) (n : Nat), (l.flatMap enc).drop (n * k) = (l.drop n).flatMap enc
  | [], n => by simp
  | a :: l, 0 => by simp
  | a :: l, n + 1 => by
    simp only [List.flatMap_cons, List.drop_succ_cons]
    rw [Nat.add_mul, Nat.one_mul, Nat.add_comm, List.drop_append, ← drop_flat h l n]
    rw [List.drop_eq_nil_of_le (by rw [h]; omega), h, List.nil_append]
    congr 1; omega
/-- The i-th thing's cells. -/
theorem cells_at {α : Type} {enc : α → List AV} {k : Nat} (h : ∀ a, (enc a).length = k) (l : List α) (i : Nat) (a : α) (hi : l[i]? = some a) : ((l.flatMap enc).drop (i * k)).take k = enc a := by
  rw [drop_flat h]
  have : l.drop i = a :: l.drop (i + 1) := by
    have hl := (List.getElem?_eq_some_iff.1 hi)
    rw [List.drop_eq_getElem_cons hl.1, hl.2]
  rw [this, List.flatMap_cons, List.take_append_of_le_length (by rw [h]; omega), List.take_of_length_le (by rw [h]; omega)]

theorem take_all {α : Type} {enc : α → List AV} {k : Nat} (h : ∀ a, (enc a).length = k) (l : List α) : (l.flatMap enc).take (l.length * k) = l.flatMap enc := List.take_of_length_le (by rw [len_flat h]; omega)
@[simp high] theorem take_calls (l : List CallR) : (l.flatMap CallR.enc).take (l.length * 8) = l.flatMap CallR.enc := take_all (enc := CallR.enc) (k := 8) (fun _ => rfl) l
@[simp high] theorem take_replies (l : List ReplyR) : (l.flatMap ReplyR.enc).take (l.length * 6) = l.flatMap ReplyR.enc := take_all (enc := ReplyR.enc) (k := 6) (fun _ => rfl) l
@[simp high] theorem take_told (l : List DoneR) : (l.flatMap DoneR.enc).take (l.length * 4) = l.flatMap DoneR.enc := take_all (enc := DoneR.enc) (k := 4) (fun _ => rfl) l

@[simp high] theorem lenc_call (x : CallR) : x.enc.length = 8 := rfl
@[simp high] theorem takec_call (x : CallR) : x.enc.take 8 = x.enc := List.take_of_length_le (Nat.le_refl _)
@[simp high] theorem at_call {l : List CallR} {i : Nat} (h : i < l.length) : List.take 8 (List.drop (i * 8) (l.flatMap CallR.enc)) = (l[i]).enc := cells_at (enc := CallR.enc) (k := 8) (fun _ => rfl) l i l[i] (by simp [h])

@[simp high] theorem lenc_reply (x : ReplyR) : x.enc.length = 6 := rfl
@[simp high] theorem takec_reply (x : ReplyR) : x.enc.take 6 = x.enc := List.take_of_length_le (Nat.le_refl _)
@[simp high] theorem at_reply {l : List ReplyR} {i : Nat} (h : i < l.length) : List.take 6 (List.drop (i * 6) (l.flatMap ReplyR.enc)) = (l[i]).enc := cells_at (enc := ReplyR.enc) (k := 6) (fun _ => rfl) l i l[i] (by simp [h])

@[simp high] theorem lenc_done (x : DoneR) : x.enc.length = 4 := rfl
@[simp high] theorem takec_done (x : DoneR) : x.enc.take 4 = x.enc := List.take_of_length_le (Nat.le_refl _)
@[simp high] theorem at_done {l : List DoneR} {i : Nat} (h : i < l.length) : List.take 4 (List.drop (i * 4) (l.flatMap DoneR.enc)) = (l[i]).enc := cells_at (enc := DoneR.enc) (k := 4) (fun _ => rfl) l i l[i] (by simp [h])

theorem one_flat {α : Type} {enc : α → List AV} (h : ∀ a, (enc a).all isOne = true) (l : List α) : (l.flatMap enc).all isOne = true := by
  simp only [List.all_flatMap]; simpa using fun a _ => by simpa using h a
theorem one_map1 {α : Type} {enc : α → AV} (h : ∀ a, isOne (enc a) = true) (l : List α) : (l.map enc).all isOne = true := by
  simp only [List.all_map]; simpa using fun a _ => h a
@[simp] theorem CallR.one (c : CallR) : c.enc.all isOne = true := rfl
@[simp] theorem ReplyR.one (c : ReplyR) : c.enc.all isOne = true := rfl
@[simp] theorem DoneR.one (c : DoneR) : c.enc.all isOne = true := rfl
@[simp high] theorem one_calls (l : List CallR) : (l.flatMap CallR.enc).all isOne = true := one_flat CallR.one l
@[simp high] theorem one_replies (l : List ReplyR) : (l.flatMap ReplyR.enc).all isOne = true := one_flat ReplyR.one l
@[simp high] theorem one_told (l : List DoneR) : (l.flatMap DoneR.enc).all isOne = true := one_flat DoneR.one l
@[simp high] theorem one_names (l : List ByteArray) : (l.map S).all isOne = true := one_map1 (fun _ => rfl) l

theorem ReplyR.eq_iff (a b : ReplyR) : a = b ↔ a.names = b.names ∧ a.e = b.e ∧ a.a = b.a ∧ a.b = b.b ∧ a.n = b.n ∧ a.text = b.text := by
  cases a; cases b; simp only [ReplyR.mk.injEq]
  constructor
  · rintro ⟨a, b, c, d, e, f⟩; exact ⟨f, a, b, c, d, e⟩
  · rintro ⟨f, a, b, c, d, e⟩; exact ⟨a, b, c, d, e, f⟩

/-! ### numbers in their range -/
def CallR.wf (c : CallR) : Prop := inI c.kind ∧ inI c.ino ∧ inI c.to_ ∧ inI c.at_ ∧ inI c.many ∧ c.name.size ≤ maxLen ∧ c.name2.size ≤ maxLen ∧ c.text.size ≤ maxLen
def ReplyR.wf (c : ReplyR) : Prop := inI c.e ∧ inI c.a ∧ inI c.b ∧ inI c.n ∧ c.text.size ≤ maxLen ∧ ∀ x ∈ c.names, x.size ≤ maxLen
def DoneR.wf (c : DoneR) : Prop := inI c.seq ∧ inI c.e ∧ ∀ x ∈ c.l, x.wf
def ClientR.wf (c : ClientR) : Prop := inI c.me ∧ inI c.epoch ∧ inI c.seq ∧ (∀ l ∈ c.jobs, ∀ x ∈ l, x.wf) ∧ inI c.phase ∧ inI c.n ∧ inI c.stamp ∧ (∀ x ∈ c.told, x.wf) ∧ (∀ x ∈ c.now, x.wf)
def RspR.wf (c : RspR) : Prop := inI c.kind ∧ inI c.client ∧ inI c.epoch ∧ inI c.seq ∧ inI c.n ∧ c.r.wf
section
variable {P : Program} {W : World}
theorem opn_call {t i s : TypeId} (ht : tstruct P t = some [(0, i), (1, i), (2, i), (3, i), (4, i), (5, s), (6, s), (7, s)]) (h8 : tsize P t = some 8) (hi : P.underlying i = some (.int .i64)) (hi1 : tsize P i = some 1) (hs : P.underlying s = some .string) (hs1 : tsize P s = some 1) :
    Opn P W t (fun as => ∃ c : CallR, as = c.enc ∧ c.wf) :=
  (opn_struct ht h8 (.cons (opn_int hi) hi1 (.cons (opn_int hi) hi1 (.cons (opn_int hi) hi1 (.cons (opn_int hi) hi1 (.cons (opn_int hi) hi1 (.cons (opn_string hs) hs1 (.cons (opn_string hs) hs1 (.cons (opn_string hs) hs1 .nil))))))))).mono fun as h => by
    obtain ⟨_, _, ⟨a, rfl, ha⟩, ⟨_, _, ⟨b, rfl, hb⟩, ⟨_, _, ⟨c, rfl, hc⟩, ⟨_, _, ⟨d, rfl, hd⟩, ⟨_, _, ⟨e, rfl, he⟩, ⟨_, _, ⟨f, rfl, hf⟩, ⟨_, _, ⟨g, rfl, hg⟩, ⟨_, _, ⟨k, rfl, hk⟩, rfl, rfl⟩, rfl⟩, rfl⟩, rfl⟩, rfl⟩, rfl⟩, rfl⟩, rfl⟩ := h
    exact ⟨⟨a, b, c, d, e, f, g, k⟩, rfl, ha, hb, hc, hd, he, hf, hg, hk⟩
theorem opn_reply {t e i s ss : TypeId} (ht : tstruct P t = some [(0, e), (1, i), (2, i), (3, i), (4, s), (5, ss)]) (h8 : tsize P t = some 6) (hi : P.underlying i = some (.int .i64)) (hi1 : tsize P i = some 1) (he : P.underlying e = some (.int .i64)) (he1 : tsize P e = some 1) (hs : P.underlying s = some .string) (hs1 : tsize P s = some 1) (hss : telem P ss = some s) (hss1 : tsize P ss = some 1) :
    Opn P W t (fun as => ∃ c : ReplyR, as = c.enc ∧ c.wf) :=
  (opn_struct ht h8 (.cons (opn_int he) he1 (.cons (opn_int hi) hi1 (.cons (opn_int hi) hi1 (.cons (opn_int hi) hi1 (.cons (opn_string hs) hs1 (.cons (opn_rows1 (enc := S) (p := fun x => x.size ≤ maxLen) hss hs1 (opn_string hs)) hss1 .nil))))))).mono fun as h => by
    obtain ⟨_, _, ⟨a, rfl, ha⟩, ⟨_, _, ⟨b, rfl, hb⟩, ⟨_, _, ⟨c, rfl, hc⟩, ⟨_, _, ⟨d, rfl, hd⟩, ⟨_, _, ⟨e, rfl, he⟩, ⟨_, _, ⟨f, rfl, hf⟩, rfl, rfl⟩, rfl⟩, rfl⟩, rfl⟩, rfl⟩, rfl⟩ := h
    exact ⟨⟨a, b, c, d, e, f⟩, rfl, ha, hb, hc, hd, he, hf⟩
theorem opn_done {t i b e rs r : TypeId} (ht : tstruct P t = some [(0, i), (1, b), (2, e), (3, rs)]) (h8 : tsize P t = some 4) (hi : P.underlying i = some (.int .i64)) (hi1 : tsize P i = some 1) (he : P.underlying e = some (.int .i64)) (he1 : tsize P e = some 1) (hb : P.underlying b = some .bool) (hb1 : tsize P b = some 1) (hrs : telem P rs = some r) (hrs1 : tsize P rs = some 1) (hr6 : tsize P r = some 6)
    (hr : Opn P W r (fun as => ∃ c : ReplyR, as = c.enc ∧ c.wf)) : Opn P W t (fun as => ∃ c : DoneR, as = c.enc ∧ c.wf) :=
  (opn_struct ht h8 (.cons (opn_int hi) hi1 (.cons (opn_bool hb) hb1 (.cons (opn_int he) he1 (.cons (opn_rows hrs hr6 (by omega) hr) hrs1 .nil))))).mono fun as h => by
    obtain ⟨_, _, ⟨a, rfl, ha⟩, ⟨_, _, ⟨b, rfl⟩, ⟨_, _, ⟨c, rfl, hc⟩, ⟨_, _, ⟨d, rfl, hd⟩, rfl, rfl⟩, rfl⟩, rfl⟩, rfl⟩ := h
    exact ⟨⟨a, b, c, d⟩, rfl, ha, hc, hd⟩
theorem opn_client {t i js cl c d ds r rs : TypeId} (ht : tstruct P t = some [(0, i), (1, i), (2, i), (3, js), (4, i), (5, i), (6, i), (7, ds), (8, rs)]) (h9 : tsize P t = some 9) (hi : P.underlying i = some (.int .i64)) (hi1 : tsize P i = some 1)
    (hjs : telem P js = some cl) (hjs1 : tsize P js = some 1) (hcl : telem P cl = some c) (hcl1 : tsize P cl = some 1) (hc8 : tsize P c = some 8) (hds : telem P ds = some d) (hds1 : tsize P ds = some 1) (hd4 : tsize P d = some 4) (hrs : telem P rs = some r) (hrs1 : tsize P rs = some 1) (hr6 : tsize P r = some 6)
    (hc : Opn P W c (fun as => ∃ c : CallR, as = c.enc ∧ c.wf)) (hd : Opn P W d (fun as => ∃ c : DoneR, as = c.enc ∧ c.wf)) (hr : Opn P W r (fun as => ∃ c : ReplyR, as = c.enc ∧ c.wf)) : Opn P W t (fun as => ∃ c : ClientR, as = c.enc ∧ c.wf) :=
  (opn_struct ht h9 (.cons (opn_int hi) hi1 (.cons (opn_int hi) hi1 (.cons (opn_int hi) hi1 (.cons (opn_rows1 (enc := encCalls) (p := fun l => ∀ x ∈ l, x.wf) hjs hcl1 (opn_rows hcl hc8 (by omega) hc)) hjs1 (.cons (opn_int hi) hi1 (.cons (opn_int hi) hi1 (.cons (opn_int hi) hi1 (.cons (opn_rows hds hd4 (by omega) hd) hds1 (.cons (opn_rows hrs hr6 (by omega) hr) hrs1 .nil)))))))))).mono fun as h => by
    obtain ⟨_, _, ⟨a, rfl, ha⟩, ⟨_, _, ⟨b, rfl, hb⟩, ⟨_, _, ⟨c, rfl, hc⟩, ⟨_, _, ⟨d, rfl, hd⟩, ⟨_, _, ⟨e, rfl, he⟩, ⟨_, _, ⟨f, rfl, hf⟩, ⟨_, _, ⟨g, rfl, hg⟩, ⟨_, _, ⟨k, rfl, hk⟩, ⟨_, _, ⟨l, rfl, hl⟩, rfl, rfl⟩, rfl⟩, rfl⟩, rfl⟩, rfl⟩, rfl⟩, rfl⟩, rfl⟩, rfl⟩ := h
    exact ⟨⟨a, b, c, d, e, f, g, k, l⟩, rfl, ha, hb, hc, hd, he, hf, hg, hk, hl⟩
theorem opn_rsp {t i r : TypeId} (ht : tstruct P t = some [(0, i), (1, i), (2, i), (3, i), (4, i), (5, r)]) (h11 : tsize P t = some 11) (hi : P.underlying i = some (.int .i64)) (hi1 : tsize P i = some 1) (hr6 : tsize P r = some 6) (hr : Opn P W r (fun as => ∃ c : ReplyR, as = c.enc ∧ c.wf)) :
    Opn P W t (fun as => ∃ c : RspR, as = c.enc ∧ c.wf) :=
  (opn_struct ht h11 (.cons (opn_int hi) hi1 (.cons (opn_int hi) hi1 (.cons (opn_int hi) hi1 (.cons (opn_int hi) hi1 (.cons (opn_int hi) hi1 (.cons hr hr6 .nil))))))).mono fun as h => by
    obtain ⟨_, _, ⟨a, rfl, ha⟩, ⟨_, _, ⟨b, rfl, hb⟩, ⟨_, _, ⟨c, rfl, hc⟩, ⟨_, _, ⟨d, rfl, hd⟩, ⟨_, _, ⟨e, rfl, he⟩, ⟨_, _, ⟨f, rfl, hf⟩, rfl, rfl⟩, rfl⟩, rfl⟩, rfl⟩, rfl⟩, rfl⟩ := h
    exact ⟨⟨a, b, c, d, e, f⟩, by simp [RspR.enc], ha, hb, hc, hd, he, hf⟩
end

/-! ### records compared -/
def CallR.vals (c : CallR) : List Value := [.int .i64 c.kind, .int .i64 c.ino, .int .i64 c.to_, .int .i64 c.at_, .int .i64 c.many, .string c.name, .string c.name2, .string c.text]
abbrev callK : List TypeDesc := [.int .i64, .int .i64, .int .i64, .int .i64, .int .i64, .string, .string, .string]
theorem CallR.kinds (c : CallR) : Kinds callK c.vals := .cons rfl (.cons rfl (.cons rfl (.cons rfl (.cons rfl (.cons rfl (.cons rfl (.cons rfl .nil)))))))
theorem CallR.vals_eq (a b : CallR) : a.vals = b.vals ↔ a = b := by
  cases a; cases b; simp [CallR.vals]
def MsgR.vals (c : MsgR) : List Value := [.int .i64 c.kind, .int .i64 c.client, .int .i64 c.epoch, .int .i64 c.seq, .int .i64 c.n, .int .i64 c.stamp] ++ c.c.vals
theorem MsgR.kinds (c : MsgR) : Kinds ([.int .i64, .int .i64, .int .i64, .int .i64, .int .i64, .int .i64] ++ callK) c.vals := .cons rfl (.cons rfl (.cons rfl (.cons rfl (.cons rfl (.cons rfl c.c.kinds)))))
theorem MsgR.vals_eq (a b : MsgR) : a.vals = b.vals ↔ a = b := by
  cases a with | mk a1 a2 a3 a4 a5 a6 ac => cases b with | mk b1 b2 b3 b4 b5 b6 bc =>
    simp only [MsgR.vals, List.cons_append, List.nil_append, List.cons.injEq, Value.int.injEq, true_and, CallR.vals_eq, MsgR.mk.injEq]
section
variable {P : Program} {t : TypeId} (ox oy : Operand)
@[simp] theorem call_eql (ht : tflat P t = some callK) (hg : tagg P t = some true) (a b : CallR) : abin P .eql t ox oy (.agg a.enc) (.agg b.enc) = some (.val (.bool (decide (a = b)))) := by
  have := (bin_agg ht hg a.kinds b.kinds ox oy).1
  have e : decide (a.vals = b.vals) = decide (a = b) := by rw [decide_eq_decide]; exact CallR.vals_eq a b
  rw [e] at this; exact this
@[simp] theorem call_neq (ht : tflat P t = some callK) (hg : tagg P t = some true) (a b : CallR) : abin P .neq t ox oy (.agg a.enc) (.agg b.enc) = some (.val (.bool (!decide (a = b)))) := by
  have := (bin_agg ht hg a.kinds b.kinds ox oy).2
  have e : decide (a.vals = b.vals) = decide (a = b) := by rw [decide_eq_decide]; exact CallR.vals_eq a b
  rw [e] at this; exact this
@[simp] theorem msg_eql (ht : tflat P t = some ([.int .i64, .int .i64, .int .i64, .int .i64, .int .i64, .int .i64] ++ callK)) (hg : tagg P t = some true) (a b : MsgR) : abin P .eql t ox oy (.agg a.enc) (.agg b.enc) = some (.val (.bool (decide (a = b)))) := by
  have := (bin_agg ht hg a.kinds b.kinds ox oy).1
  have e : decide (a.vals = b.vals) = decide (a = b) := by rw [decide_eq_decide]; exact MsgR.vals_eq a b
  rw [e] at this; exact this
end
end Go.Cx

set_option linter.unusedVariables false
set_option linter.unusedSimpArgs false
namespace Go.Cx
abbrev U (n : Int) : AV := .val (.int .u64 n)
abbrev Y8 (n : Int) : AV := .val (.int .u8 n)
def inU (n : Int) : Prop := 0 ≤ n ∧ n < 18446744073709551616
def inY (n : Int) : Prop := 0 ≤ n ∧ n < 256
@[simp] theorem all_ints (l : List Int) : (l.map I).all neat = true := all_map1 (by simp) l
@[simp high] theorem one_ints (l : List Int) : (l.map I).all isOne = true := one_map1 (fun _ => rfl) l
@[simp] theorem all_bools (l : List Bool) : (l.map B).all neat = true := all_map1 (by simp) l
@[simp high] theorem one_bools (l : List Bool) : (l.map B).all isOne = true := one_map1 (fun _ => rfl) l

structure EntryR where
  name : ByteArray
  ino : Int
  deriving DecidableEq
def EntryR.enc (c : EntryR) : List AV := [S c.name, I c.ino]
def EntryR.zero : EntryR := ⟨.empty, 0⟩
@[simp] theorem EntryR.neat (c : EntryR) : c.enc.all neat = true := by simp [EntryR.enc]
@[simp] theorem all_EntryR (l : List EntryR) : (l.flatMap EntryR.enc).all neat = true := all_flat EntryR.neat l
@[simp] theorem EntryR.one (c : EntryR) : c.enc.all isOne = true := rfl
@[simp high] theorem one_EntryR (l : List EntryR) : (l.flatMap EntryR.enc).all isOne = true := one_flat EntryR.one l
@[simp high] theorem lenc_EntryR (x : EntryR) : x.enc.length = 2 := rfl
@[simp high] theorem takec_EntryR (x : EntryR) : x.enc.take 2 = x.enc := List.take_of_length_le (Nat.le_refl _)
@[simp high] theorem len_EntryR (l : List EntryR) : (l.flatMap EntryR.enc).length = l.length * 2 := len_flat (enc := EntryR.enc) (k := 2) (fun _ => rfl) l
@[simp high] theorem take_EntryR (l : List EntryR) : (l.flatMap EntryR.enc).take (l.length * 2) = l.flatMap EntryR.enc := take_all (enc := EntryR.enc) (k := 2) (fun _ => rfl) l
@[simp high] theorem at_EntryR {l : List EntryR} {i : Nat} (h : i < l.length) : List.take 2 (List.drop (i * 2) (l.flatMap EntryR.enc)) = (l[i]).enc := cells_at (enc := EntryR.enc) (k := 2) (fun _ => rfl) l i l[i] (by simp [h])
@[simp high] theorem at0_EntryR {l : List EntryR} (h : 0 < l.length) : List.take 2 (l.flatMap EntryR.enc) = (l[0]).enc := by have := at_EntryR (l := l) h; simpa using this
@[simp high] theorem at1_EntryR {l : List EntryR} (h : 1 < l.length) : List.take 2 (List.drop 2 (l.flatMap EntryR.enc)) = (l[1]).enc := by have := at_EntryR (l := l) h; simpa using this
theorem takes_EntryR (l : List EntryR) (n : Nat) : (l.flatMap EntryR.enc).take (n * 2) = (l.take n).flatMap EntryR.enc := take_flat (enc := EntryR.enc) (k := 2) (fun _ => rfl) l n
theorem drops_EntryR (l : List EntryR) (n : Nat) : (l.flatMap EntryR.enc).drop (n * 2) = (l.drop n).flatMap EntryR.enc := drop_flat (enc := EntryR.enc) (k := 2) (fun _ => rfl) l n
theorem EntryR.eq_iff (a b : EntryR) : a = b ↔ a.name = b.name ∧ a.ino = b.ino := by cases a; cases b; simp
def EntryR.wf (c : EntryR) : Prop := c.name.size ≤ maxLen ∧ inI c.ino

structure NodeR where
  ino : Int
  kind : Int
  links : Int
  text : ByteArray
  l : List EntryR
  deriving DecidableEq
def NodeR.enc (c : NodeR) : List AV := [I c.ino, I c.kind, I c.links, S c.text, encL EntryR.enc c.l]
def NodeR.zero : NodeR := ⟨0, 0, 0, .empty, []⟩
@[simp] theorem NodeR.neat (c : NodeR) : c.enc.all neat = true := by simp [NodeR.enc]
@[simp] theorem all_NodeR (l : List NodeR) : (l.flatMap NodeR.enc).all neat = true := all_flat NodeR.neat l
@[simp] theorem NodeR.one (c : NodeR) : c.enc.all isOne = true := rfl
@[simp high] theorem one_NodeR (l : List NodeR) : (l.flatMap NodeR.enc).all isOne = true := one_flat NodeR.one l
@[simp high] theorem lenc_NodeR (x : NodeR) : x.enc.length = 5 := rfl
@[simp high] theorem takec_NodeR (x : NodeR) : x.enc.take 5 = x.enc := List.take_of_length_le (Nat.le_refl _)
@[simp high] theorem len_NodeR (l : List NodeR) : (l.flatMap NodeR.enc).length = l.length * 5 := len_flat (enc := NodeR.enc) (k := 5) (fun _ => rfl) l
@[simp high] theorem take_NodeR (l : List NodeR) : (l.flatMap NodeR.enc).take (l.length * 5) = l.flatMap NodeR.enc := take_all (enc := NodeR.enc) (k := 5) (fun _ => rfl) l
@[simp high] theorem at_NodeR {l : List NodeR} {i : Nat} (h : i < l.length) : List.take 5 (List.drop (i * 5) (l.flatMap NodeR.enc)) = (l[i]).enc := cells_at (enc := NodeR.enc) (k := 5) (fun _ => rfl) l i l[i] (by simp [h])
@[simp high] theorem at0_NodeR {l : List NodeR} (h : 0 < l.length) : List.take 5 (l.flatMap NodeR.enc) = (l[0]).enc := by have := at_NodeR (l := l) h; simpa using this
@[simp high] theorem at1_NodeR {l : List NodeR} (h : 1 < l.length) : List.take 5 (List.drop 5 (l.flatMap NodeR.enc)) = (l[1]).enc := by have := at_NodeR (l := l) h; simpa using this
theorem takes_NodeR (l : List NodeR) (n : Nat) : (l.flatMap NodeR.enc).take (n * 5) = (l.take n).flatMap NodeR.enc := take_flat (enc := NodeR.enc) (k := 5) (fun _ => rfl) l n
theorem drops_NodeR (l : List NodeR) (n : Nat) : (l.flatMap NodeR.enc).drop (n * 5) = (l.drop n).flatMap NodeR.enc := drop_flat (enc := NodeR.enc) (k := 5) (fun _ => rfl) l n
theorem NodeR.eq_iff (a b : NodeR) : a = b ↔ a.ino = b.ino ∧ a.kind = b.kind ∧ a.links = b.links ∧ a.text = b.text ∧ a.l = b.l := by cases a; cases b; simp
def NodeR.wf (c : NodeR) : Prop := inI c.ino ∧ inI c.kind ∧ inI c.links ∧ c.text.size ≤ maxLen ∧ (∀ x ∈ c.l, x.wf)

structure FSR where
  l : List NodeR
  next : Int
  deriving DecidableEq
def FSR.enc (c : FSR) : List AV := [encL NodeR.enc c.l, I c.next]
def FSR.zero : FSR := ⟨[], 0⟩
@[simp] theorem FSR.neat (c : FSR) : c.enc.all neat = true := by simp [FSR.enc]
@[simp] theorem all_FSR (l : List FSR) : (l.flatMap FSR.enc).all neat = true := all_flat FSR.neat l
@[simp] theorem FSR.one (c : FSR) : c.enc.all isOne = true := rfl
@[simp high] theorem one_FSR (l : List FSR) : (l.flatMap FSR.enc).all isOne = true := one_flat FSR.one l
@[simp high] theorem lenc_FSR (x : FSR) : x.enc.length = 2 := rfl
@[simp high] theorem takec_FSR (x : FSR) : x.enc.take 2 = x.enc := List.take_of_length_le (Nat.le_refl _)
@[simp high] theorem len_FSR (l : List FSR) : (l.flatMap FSR.enc).length = l.length * 2 := len_flat (enc := FSR.enc) (k := 2) (fun _ => rfl) l
@[simp high] theorem take_FSR (l : List FSR) : (l.flatMap FSR.enc).take (l.length * 2) = l.flatMap FSR.enc := take_all (enc := FSR.enc) (k := 2) (fun _ => rfl) l
@[simp high] theorem at_FSR {l : List FSR} {i : Nat} (h : i < l.length) : List.take 2 (List.drop (i * 2) (l.flatMap FSR.enc)) = (l[i]).enc := cells_at (enc := FSR.enc) (k := 2) (fun _ => rfl) l i l[i] (by simp [h])
@[simp high] theorem at0_FSR {l : List FSR} (h : 0 < l.length) : List.take 2 (l.flatMap FSR.enc) = (l[0]).enc := by have := at_FSR (l := l) h; simpa using this
@[simp high] theorem at1_FSR {l : List FSR} (h : 1 < l.length) : List.take 2 (List.drop 2 (l.flatMap FSR.enc)) = (l[1]).enc := by have := at_FSR (l := l) h; simpa using this
theorem takes_FSR (l : List FSR) (n : Nat) : (l.flatMap FSR.enc).take (n * 2) = (l.take n).flatMap FSR.enc := take_flat (enc := FSR.enc) (k := 2) (fun _ => rfl) l n
theorem drops_FSR (l : List FSR) (n : Nat) : (l.flatMap FSR.enc).drop (n * 2) = (l.drop n).flatMap FSR.enc := drop_flat (enc := FSR.enc) (k := 2) (fun _ => rfl) l n
theorem FSR.eq_iff (a b : FSR) : a = b ↔ a.l = b.l ∧ a.next = b.next := by cases a; cases b; simp
def FSR.wf (c : FSR) : Prop := (∀ x ∈ c.l, x.wf) ∧ inI c.next

structure ChangeR where
  ino : Int
  gone : Bool
  node : NodeR
  deriving DecidableEq
def ChangeR.enc (c : ChangeR) : List AV := [I c.ino, B c.gone] ++ c.node.enc
def ChangeR.zero : ChangeR := ⟨0, false, .zero⟩
@[simp] theorem ChangeR.neat (c : ChangeR) : c.enc.all neat = true := by simp [ChangeR.enc]
@[simp] theorem all_ChangeR (l : List ChangeR) : (l.flatMap ChangeR.enc).all neat = true := all_flat ChangeR.neat l
@[simp] theorem ChangeR.one (c : ChangeR) : c.enc.all isOne = true := rfl
@[simp high] theorem one_ChangeR (l : List ChangeR) : (l.flatMap ChangeR.enc).all isOne = true := one_flat ChangeR.one l
@[simp high] theorem lenc_ChangeR (x : ChangeR) : x.enc.length = 7 := rfl
@[simp high] theorem takec_ChangeR (x : ChangeR) : x.enc.take 7 = x.enc := List.take_of_length_le (Nat.le_refl _)
@[simp high] theorem len_ChangeR (l : List ChangeR) : (l.flatMap ChangeR.enc).length = l.length * 7 := len_flat (enc := ChangeR.enc) (k := 7) (fun _ => rfl) l
@[simp high] theorem take_ChangeR (l : List ChangeR) : (l.flatMap ChangeR.enc).take (l.length * 7) = l.flatMap ChangeR.enc := take_all (enc := ChangeR.enc) (k := 7) (fun _ => rfl) l
@[simp high] theorem at_ChangeR {l : List ChangeR} {i : Nat} (h : i < l.length) : List.take 7 (List.drop (i * 7) (l.flatMap ChangeR.enc)) = (l[i]).enc := cells_at (enc := ChangeR.enc) (k := 7) (fun _ => rfl) l i l[i] (by simp [h])
@[simp high] theorem at0_ChangeR {l : List ChangeR} (h : 0 < l.length) : List.take 7 (l.flatMap ChangeR.enc) = (l[0]).enc := by have := at_ChangeR (l := l) h; simpa using this
@[simp high] theorem at1_ChangeR {l : List ChangeR} (h : 1 < l.length) : List.take 7 (List.drop 7 (l.flatMap ChangeR.enc)) = (l[1]).enc := by have := at_ChangeR (l := l) h; simpa using this
theorem takes_ChangeR (l : List ChangeR) (n : Nat) : (l.flatMap ChangeR.enc).take (n * 7) = (l.take n).flatMap ChangeR.enc := take_flat (enc := ChangeR.enc) (k := 7) (fun _ => rfl) l n
theorem drops_ChangeR (l : List ChangeR) (n : Nat) : (l.flatMap ChangeR.enc).drop (n * 7) = (l.drop n).flatMap ChangeR.enc := drop_flat (enc := ChangeR.enc) (k := 7) (fun _ => rfl) l n
theorem ChangeR.eq_iff (a b : ChangeR) : a = b ↔ a.ino = b.ino ∧ a.gone = b.gone ∧ a.node = b.node := by cases a; cases b; simp
def ChangeR.wf (c : ChangeR) : Prop := inI c.ino ∧ c.node.wf

structure VerR where
  stamp : Int
  gone : Bool
  node : NodeR
  deriving DecidableEq
def VerR.enc (c : VerR) : List AV := [I c.stamp, B c.gone] ++ c.node.enc
def VerR.zero : VerR := ⟨0, false, .zero⟩
@[simp] theorem VerR.neat (c : VerR) : c.enc.all neat = true := by simp [VerR.enc]
@[simp] theorem all_VerR (l : List VerR) : (l.flatMap VerR.enc).all neat = true := all_flat VerR.neat l
@[simp] theorem VerR.one (c : VerR) : c.enc.all isOne = true := rfl
@[simp high] theorem one_VerR (l : List VerR) : (l.flatMap VerR.enc).all isOne = true := one_flat VerR.one l
@[simp high] theorem lenc_VerR (x : VerR) : x.enc.length = 7 := rfl
@[simp high] theorem takec_VerR (x : VerR) : x.enc.take 7 = x.enc := List.take_of_length_le (Nat.le_refl _)
@[simp high] theorem len_VerR (l : List VerR) : (l.flatMap VerR.enc).length = l.length * 7 := len_flat (enc := VerR.enc) (k := 7) (fun _ => rfl) l
@[simp high] theorem take_VerR (l : List VerR) : (l.flatMap VerR.enc).take (l.length * 7) = l.flatMap VerR.enc := take_all (enc := VerR.enc) (k := 7) (fun _ => rfl) l
@[simp high] theorem at_VerR {l : List VerR} {i : Nat} (h : i < l.length) : List.take 7 (List.drop (i * 7) (l.flatMap VerR.enc)) = (l[i]).enc := cells_at (enc := VerR.enc) (k := 7) (fun _ => rfl) l i l[i] (by simp [h])
@[simp high] theorem at0_VerR {l : List VerR} (h : 0 < l.length) : List.take 7 (l.flatMap VerR.enc) = (l[0]).enc := by have := at_VerR (l := l) h; simpa using this
@[simp high] theorem at1_VerR {l : List VerR} (h : 1 < l.length) : List.take 7 (List.drop 7 (l.flatMap VerR.enc)) = (l[1]).enc := by have := at_VerR (l := l) h; simpa using this
theorem takes_VerR (l : List VerR) (n : Nat) : (l.flatMap VerR.enc).take (n * 7) = (l.take n).flatMap VerR.enc := take_flat (enc := VerR.enc) (k := 7) (fun _ => rfl) l n
theorem drops_VerR (l : List VerR) (n : Nat) : (l.flatMap VerR.enc).drop (n * 7) = (l.drop n).flatMap VerR.enc := drop_flat (enc := VerR.enc) (k := 7) (fun _ => rfl) l n
theorem VerR.eq_iff (a b : VerR) : a = b ↔ a.stamp = b.stamp ∧ a.gone = b.gone ∧ a.node = b.node := by cases a; cases b; simp
def VerR.wf (c : VerR) : Prop := inI c.stamp ∧ c.node.wf

structure ChainR where
  ino : Int
  l : List VerR
  deriving DecidableEq
def ChainR.enc (c : ChainR) : List AV := [I c.ino, encL VerR.enc c.l]
def ChainR.zero : ChainR := ⟨0, []⟩
@[simp] theorem ChainR.neat (c : ChainR) : c.enc.all neat = true := by simp [ChainR.enc]
@[simp] theorem all_ChainR (l : List ChainR) : (l.flatMap ChainR.enc).all neat = true := all_flat ChainR.neat l
@[simp] theorem ChainR.one (c : ChainR) : c.enc.all isOne = true := rfl
@[simp high] theorem one_ChainR (l : List ChainR) : (l.flatMap ChainR.enc).all isOne = true := one_flat ChainR.one l
@[simp high] theorem lenc_ChainR (x : ChainR) : x.enc.length = 2 := rfl
@[simp high] theorem takec_ChainR (x : ChainR) : x.enc.take 2 = x.enc := List.take_of_length_le (Nat.le_refl _)
@[simp high] theorem len_ChainR (l : List ChainR) : (l.flatMap ChainR.enc).length = l.length * 2 := len_flat (enc := ChainR.enc) (k := 2) (fun _ => rfl) l
@[simp high] theorem take_ChainR (l : List ChainR) : (l.flatMap ChainR.enc).take (l.length * 2) = l.flatMap ChainR.enc := take_all (enc := ChainR.enc) (k := 2) (fun _ => rfl) l
@[simp high] theorem at_ChainR {l : List ChainR} {i : Nat} (h : i < l.length) : List.take 2 (List.drop (i * 2) (l.flatMap ChainR.enc)) = (l[i]).enc := cells_at (enc := ChainR.enc) (k := 2) (fun _ => rfl) l i l[i] (by simp [h])
@[simp high] theorem at0_ChainR {l : List ChainR} (h : 0 < l.length) : List.take 2 (l.flatMap ChainR.enc) = (l[0]).enc := by have := at_ChainR (l := l) h; simpa using this
@[simp high] theorem at1_ChainR {l : List ChainR} (h : 1 < l.length) : List.take 2 (List.drop 2 (l.flatMap ChainR.enc)) = (l[1]).enc := by have := at_ChainR (l := l) h; simpa using this
theorem takes_ChainR (l : List ChainR) (n : Nat) : (l.flatMap ChainR.enc).take (n * 2) = (l.take n).flatMap ChainR.enc := take_flat (enc := ChainR.enc) (k := 2) (fun _ => rfl) l n
theorem drops_ChainR (l : List ChainR) (n : Nat) : (l.flatMap ChainR.enc).drop (n * 2) = (l.drop n).flatMap ChainR.enc := drop_flat (enc := ChainR.enc) (k := 2) (fun _ => rfl) l n
theorem ChainR.eq_iff (a b : ChainR) : a = b ↔ a.ino = b.ino ∧ a.l = b.l := by cases a; cases b; simp
def ChainR.wf (c : ChainR) : Prop := inI c.ino ∧ (∀ x ∈ c.l, x.wf)

structure CountR where
  stamp : Int
  next : Int
  deriving DecidableEq
def CountR.enc (c : CountR) : List AV := [I c.stamp, I c.next]
def CountR.zero : CountR := ⟨0, 0⟩
@[simp] theorem CountR.neat (c : CountR) : c.enc.all neat = true := by simp [CountR.enc]
@[simp] theorem all_CountR (l : List CountR) : (l.flatMap CountR.enc).all neat = true := all_flat CountR.neat l
@[simp] theorem CountR.one (c : CountR) : c.enc.all isOne = true := rfl
@[simp high] theorem one_CountR (l : List CountR) : (l.flatMap CountR.enc).all isOne = true := one_flat CountR.one l
@[simp high] theorem lenc_CountR (x : CountR) : x.enc.length = 2 := rfl
@[simp high] theorem takec_CountR (x : CountR) : x.enc.take 2 = x.enc := List.take_of_length_le (Nat.le_refl _)
@[simp high] theorem len_CountR (l : List CountR) : (l.flatMap CountR.enc).length = l.length * 2 := len_flat (enc := CountR.enc) (k := 2) (fun _ => rfl) l
@[simp high] theorem take_CountR (l : List CountR) : (l.flatMap CountR.enc).take (l.length * 2) = l.flatMap CountR.enc := take_all (enc := CountR.enc) (k := 2) (fun _ => rfl) l
@[simp high] theorem at_CountR {l : List CountR} {i : Nat} (h : i < l.length) : List.take 2 (List.drop (i * 2) (l.flatMap CountR.enc)) = (l[i]).enc := cells_at (enc := CountR.enc) (k := 2) (fun _ => rfl) l i l[i] (by simp [h])
@[simp high] theorem at0_CountR {l : List CountR} (h : 0 < l.length) : List.take 2 (l.flatMap CountR.enc) = (l[0]).enc := by have := at_CountR (l := l) h; simpa using this
@[simp high] theorem at1_CountR {l : List CountR} (h : 1 < l.length) : List.take 2 (List.drop 2 (l.flatMap CountR.enc)) = (l[1]).enc := by have := at_CountR (l := l) h; simpa using this
theorem takes_CountR (l : List CountR) (n : Nat) : (l.flatMap CountR.enc).take (n * 2) = (l.take n).flatMap CountR.enc := take_flat (enc := CountR.enc) (k := 2) (fun _ => rfl) l n
theorem drops_CountR (l : List CountR) (n : Nat) : (l.flatMap CountR.enc).drop (n * 2) = (l.drop n).flatMap CountR.enc := drop_flat (enc := CountR.enc) (k := 2) (fun _ => rfl) l n
theorem CountR.eq_iff (a b : CountR) : a = b ↔ a.stamp = b.stamp ∧ a.next = b.next := by cases a; cases b; simp
def CountR.wf (c : CountR) : Prop := inI c.stamp ∧ inI c.next

structure StoreR where
  l : List ChainR
  nexts : List CountR
  stamp : Int
  deriving DecidableEq
def StoreR.enc (c : StoreR) : List AV := [encL ChainR.enc c.l, encL CountR.enc c.nexts, I c.stamp]
def StoreR.zero : StoreR := ⟨[], [], 0⟩
@[simp] theorem StoreR.neat (c : StoreR) : c.enc.all neat = true := by simp [StoreR.enc]
@[simp] theorem all_StoreR (l : List StoreR) : (l.flatMap StoreR.enc).all neat = true := all_flat StoreR.neat l
@[simp] theorem StoreR.one (c : StoreR) : c.enc.all isOne = true := rfl
@[simp high] theorem one_StoreR (l : List StoreR) : (l.flatMap StoreR.enc).all isOne = true := one_flat StoreR.one l
@[simp high] theorem lenc_StoreR (x : StoreR) : x.enc.length = 3 := rfl
@[simp high] theorem takec_StoreR (x : StoreR) : x.enc.take 3 = x.enc := List.take_of_length_le (Nat.le_refl _)
@[simp high] theorem len_StoreR (l : List StoreR) : (l.flatMap StoreR.enc).length = l.length * 3 := len_flat (enc := StoreR.enc) (k := 3) (fun _ => rfl) l
@[simp high] theorem take_StoreR (l : List StoreR) : (l.flatMap StoreR.enc).take (l.length * 3) = l.flatMap StoreR.enc := take_all (enc := StoreR.enc) (k := 3) (fun _ => rfl) l
@[simp high] theorem at_StoreR {l : List StoreR} {i : Nat} (h : i < l.length) : List.take 3 (List.drop (i * 3) (l.flatMap StoreR.enc)) = (l[i]).enc := cells_at (enc := StoreR.enc) (k := 3) (fun _ => rfl) l i l[i] (by simp [h])
@[simp high] theorem at0_StoreR {l : List StoreR} (h : 0 < l.length) : List.take 3 (l.flatMap StoreR.enc) = (l[0]).enc := by have := at_StoreR (l := l) h; simpa using this
@[simp high] theorem at1_StoreR {l : List StoreR} (h : 1 < l.length) : List.take 3 (List.drop 3 (l.flatMap StoreR.enc)) = (l[1]).enc := by have := at_StoreR (l := l) h; simpa using this
theorem takes_StoreR (l : List StoreR) (n : Nat) : (l.flatMap StoreR.enc).take (n * 3) = (l.take n).flatMap StoreR.enc := take_flat (enc := StoreR.enc) (k := 3) (fun _ => rfl) l n
theorem drops_StoreR (l : List StoreR) (n : Nat) : (l.flatMap StoreR.enc).drop (n * 3) = (l.drop n).flatMap StoreR.enc := drop_flat (enc := StoreR.enc) (k := 3) (fun _ => rfl) l n
theorem StoreR.eq_iff (a b : StoreR) : a = b ↔ a.l = b.l ∧ a.nexts = b.nexts ∧ a.stamp = b.stamp := by cases a; cases b; simp
def StoreR.wf (c : StoreR) : Prop := (∀ x ∈ c.l, x.wf) ∧ (∀ x ∈ c.nexts, x.wf) ∧ inI c.stamp

structure TxnR where
  stamp : Int
  was : FSR
  now : FSR
  looks : List Int
  deriving DecidableEq
def TxnR.enc (c : TxnR) : List AV := [I c.stamp] ++ c.was.enc ++ c.now.enc ++ [enc1 I c.looks]
def TxnR.zero : TxnR := ⟨0, .zero, .zero, []⟩
@[simp] theorem TxnR.neat (c : TxnR) : c.enc.all neat = true := by simp [TxnR.enc]
@[simp] theorem all_TxnR (l : List TxnR) : (l.flatMap TxnR.enc).all neat = true := all_flat TxnR.neat l
@[simp] theorem TxnR.one (c : TxnR) : c.enc.all isOne = true := rfl
@[simp high] theorem one_TxnR (l : List TxnR) : (l.flatMap TxnR.enc).all isOne = true := one_flat TxnR.one l
@[simp high] theorem lenc_TxnR (x : TxnR) : x.enc.length = 6 := rfl
@[simp high] theorem takec_TxnR (x : TxnR) : x.enc.take 6 = x.enc := List.take_of_length_le (Nat.le_refl _)
@[simp high] theorem len_TxnR (l : List TxnR) : (l.flatMap TxnR.enc).length = l.length * 6 := len_flat (enc := TxnR.enc) (k := 6) (fun _ => rfl) l
@[simp high] theorem take_TxnR (l : List TxnR) : (l.flatMap TxnR.enc).take (l.length * 6) = l.flatMap TxnR.enc := take_all (enc := TxnR.enc) (k := 6) (fun _ => rfl) l
@[simp high] theorem at_TxnR {l : List TxnR} {i : Nat} (h : i < l.length) : List.take 6 (List.drop (i * 6) (l.flatMap TxnR.enc)) = (l[i]).enc := cells_at (enc := TxnR.enc) (k := 6) (fun _ => rfl) l i l[i] (by simp [h])
@[simp high] theorem at0_TxnR {l : List TxnR} (h : 0 < l.length) : List.take 6 (l.flatMap TxnR.enc) = (l[0]).enc := by have := at_TxnR (l := l) h; simpa using this
@[simp high] theorem at1_TxnR {l : List TxnR} (h : 1 < l.length) : List.take 6 (List.drop 6 (l.flatMap TxnR.enc)) = (l[1]).enc := by have := at_TxnR (l := l) h; simpa using this
theorem takes_TxnR (l : List TxnR) (n : Nat) : (l.flatMap TxnR.enc).take (n * 6) = (l.take n).flatMap TxnR.enc := take_flat (enc := TxnR.enc) (k := 6) (fun _ => rfl) l n
theorem drops_TxnR (l : List TxnR) (n : Nat) : (l.flatMap TxnR.enc).drop (n * 6) = (l.drop n).flatMap TxnR.enc := drop_flat (enc := TxnR.enc) (k := 6) (fun _ => rfl) l n
theorem TxnR.eq_iff (a b : TxnR) : a = b ↔ a.stamp = b.stamp ∧ a.was = b.was ∧ a.now = b.now ∧ a.looks = b.looks := by cases a; cases b; simp
def TxnR.wf (c : TxnR) : Prop := inI c.stamp ∧ c.was.wf ∧ c.now.wf ∧ (∀ x ∈ c.looks, inI x)

structure DecisionR where
  seq : Int
  yes : Bool
  deriving DecidableEq
def DecisionR.enc (c : DecisionR) : List AV := [I c.seq, B c.yes]
def DecisionR.zero : DecisionR := ⟨0, false⟩
@[simp] theorem DecisionR.neat (c : DecisionR) : c.enc.all neat = true := by simp [DecisionR.enc]
@[simp] theorem all_DecisionR (l : List DecisionR) : (l.flatMap DecisionR.enc).all neat = true := all_flat DecisionR.neat l
@[simp] theorem DecisionR.one (c : DecisionR) : c.enc.all isOne = true := rfl
@[simp high] theorem one_DecisionR (l : List DecisionR) : (l.flatMap DecisionR.enc).all isOne = true := one_flat DecisionR.one l
@[simp high] theorem lenc_DecisionR (x : DecisionR) : x.enc.length = 2 := rfl
@[simp high] theorem takec_DecisionR (x : DecisionR) : x.enc.take 2 = x.enc := List.take_of_length_le (Nat.le_refl _)
@[simp high] theorem len_DecisionR (l : List DecisionR) : (l.flatMap DecisionR.enc).length = l.length * 2 := len_flat (enc := DecisionR.enc) (k := 2) (fun _ => rfl) l
@[simp high] theorem take_DecisionR (l : List DecisionR) : (l.flatMap DecisionR.enc).take (l.length * 2) = l.flatMap DecisionR.enc := take_all (enc := DecisionR.enc) (k := 2) (fun _ => rfl) l
@[simp high] theorem at_DecisionR {l : List DecisionR} {i : Nat} (h : i < l.length) : List.take 2 (List.drop (i * 2) (l.flatMap DecisionR.enc)) = (l[i]).enc := cells_at (enc := DecisionR.enc) (k := 2) (fun _ => rfl) l i l[i] (by simp [h])
@[simp high] theorem at0_DecisionR {l : List DecisionR} (h : 0 < l.length) : List.take 2 (l.flatMap DecisionR.enc) = (l[0]).enc := by have := at_DecisionR (l := l) h; simpa using this
@[simp high] theorem at1_DecisionR {l : List DecisionR} (h : 1 < l.length) : List.take 2 (List.drop 2 (l.flatMap DecisionR.enc)) = (l[1]).enc := by have := at_DecisionR (l := l) h; simpa using this
theorem takes_DecisionR (l : List DecisionR) (n : Nat) : (l.flatMap DecisionR.enc).take (n * 2) = (l.take n).flatMap DecisionR.enc := take_flat (enc := DecisionR.enc) (k := 2) (fun _ => rfl) l n
theorem drops_DecisionR (l : List DecisionR) (n : Nat) : (l.flatMap DecisionR.enc).drop (n * 2) = (l.drop n).flatMap DecisionR.enc := drop_flat (enc := DecisionR.enc) (k := 2) (fun _ => rfl) l n
theorem DecisionR.eq_iff (a b : DecisionR) : a = b ↔ a.seq = b.seq ∧ a.yes = b.yes := by cases a; cases b; simp
def DecisionR.wf (c : DecisionR) : Prop := inI c.seq

structure RowR where
  client : Int
  epoch : Int
  done : Int
  l : List DecisionR
  deriving DecidableEq
def RowR.enc (c : RowR) : List AV := [I c.client, I c.epoch, I c.done, encL DecisionR.enc c.l]
def RowR.zero : RowR := ⟨0, 0, 0, []⟩
@[simp] theorem RowR.neat (c : RowR) : c.enc.all neat = true := by simp [RowR.enc]
@[simp] theorem all_RowR (l : List RowR) : (l.flatMap RowR.enc).all neat = true := all_flat RowR.neat l
@[simp] theorem RowR.one (c : RowR) : c.enc.all isOne = true := rfl
@[simp high] theorem one_RowR (l : List RowR) : (l.flatMap RowR.enc).all isOne = true := one_flat RowR.one l
@[simp high] theorem lenc_RowR (x : RowR) : x.enc.length = 4 := rfl
@[simp high] theorem takec_RowR (x : RowR) : x.enc.take 4 = x.enc := List.take_of_length_le (Nat.le_refl _)
@[simp high] theorem len_RowR (l : List RowR) : (l.flatMap RowR.enc).length = l.length * 4 := len_flat (enc := RowR.enc) (k := 4) (fun _ => rfl) l
@[simp high] theorem take_RowR (l : List RowR) : (l.flatMap RowR.enc).take (l.length * 4) = l.flatMap RowR.enc := take_all (enc := RowR.enc) (k := 4) (fun _ => rfl) l
@[simp high] theorem at_RowR {l : List RowR} {i : Nat} (h : i < l.length) : List.take 4 (List.drop (i * 4) (l.flatMap RowR.enc)) = (l[i]).enc := cells_at (enc := RowR.enc) (k := 4) (fun _ => rfl) l i l[i] (by simp [h])
@[simp high] theorem at0_RowR {l : List RowR} (h : 0 < l.length) : List.take 4 (l.flatMap RowR.enc) = (l[0]).enc := by have := at_RowR (l := l) h; simpa using this
@[simp high] theorem at1_RowR {l : List RowR} (h : 1 < l.length) : List.take 4 (List.drop 4 (l.flatMap RowR.enc)) = (l[1]).enc := by have := at_RowR (l := l) h; simpa using this
theorem takes_RowR (l : List RowR) (n : Nat) : (l.flatMap RowR.enc).take (n * 4) = (l.take n).flatMap RowR.enc := take_flat (enc := RowR.enc) (k := 4) (fun _ => rfl) l n
theorem drops_RowR (l : List RowR) (n : Nat) : (l.flatMap RowR.enc).drop (n * 4) = (l.drop n).flatMap RowR.enc := drop_flat (enc := RowR.enc) (k := 4) (fun _ => rfl) l n
theorem RowR.eq_iff (a b : RowR) : a = b ↔ a.client = b.client ∧ a.epoch = b.epoch ∧ a.done = b.done ∧ a.l = b.l := by cases a; cases b; simp
def RowR.wf (c : RowR) : Prop := inI c.client ∧ inI c.epoch ∧ inI c.done ∧ (∀ x ∈ c.l, x.wf)

structure OpenR where
  client : Int
  epoch : Int
  seq : Int
  n : Int
  t : TxnR
  last : ReplyR
  until_ : Int
  deriving DecidableEq
def OpenR.enc (c : OpenR) : List AV := [I c.client, I c.epoch, I c.seq, I c.n] ++ c.t.enc ++ c.last.enc ++ [I c.until_]
def OpenR.zero : OpenR := ⟨0, 0, 0, 0, .zero, ⟨0, 0, 0, 0, .empty, []⟩, 0⟩
@[simp] theorem OpenR.neat (c : OpenR) : c.enc.all neat = true := by simp [OpenR.enc]
@[simp] theorem all_OpenR (l : List OpenR) : (l.flatMap OpenR.enc).all neat = true := all_flat OpenR.neat l
@[simp] theorem OpenR.one (c : OpenR) : c.enc.all isOne = true := rfl
@[simp high] theorem one_OpenR (l : List OpenR) : (l.flatMap OpenR.enc).all isOne = true := one_flat OpenR.one l
@[simp high] theorem lenc_OpenR (x : OpenR) : x.enc.length = 17 := rfl
@[simp high] theorem takec_OpenR (x : OpenR) : x.enc.take 17 = x.enc := List.take_of_length_le (Nat.le_refl _)
@[simp high] theorem len_OpenR (l : List OpenR) : (l.flatMap OpenR.enc).length = l.length * 17 := len_flat (enc := OpenR.enc) (k := 17) (fun _ => rfl) l
@[simp high] theorem take_OpenR (l : List OpenR) : (l.flatMap OpenR.enc).take (l.length * 17) = l.flatMap OpenR.enc := take_all (enc := OpenR.enc) (k := 17) (fun _ => rfl) l
@[simp high] theorem at_OpenR {l : List OpenR} {i : Nat} (h : i < l.length) : List.take 17 (List.drop (i * 17) (l.flatMap OpenR.enc)) = (l[i]).enc := cells_at (enc := OpenR.enc) (k := 17) (fun _ => rfl) l i l[i] (by simp [h])
@[simp high] theorem at0_OpenR {l : List OpenR} (h : 0 < l.length) : List.take 17 (l.flatMap OpenR.enc) = (l[0]).enc := by have := at_OpenR (l := l) h; simpa using this
@[simp high] theorem at1_OpenR {l : List OpenR} (h : 1 < l.length) : List.take 17 (List.drop 17 (l.flatMap OpenR.enc)) = (l[1]).enc := by have := at_OpenR (l := l) h; simpa using this
theorem takes_OpenR (l : List OpenR) (n : Nat) : (l.flatMap OpenR.enc).take (n * 17) = (l.take n).flatMap OpenR.enc := take_flat (enc := OpenR.enc) (k := 17) (fun _ => rfl) l n
theorem drops_OpenR (l : List OpenR) (n : Nat) : (l.flatMap OpenR.enc).drop (n * 17) = (l.drop n).flatMap OpenR.enc := drop_flat (enc := OpenR.enc) (k := 17) (fun _ => rfl) l n
theorem OpenR.eq_iff (a b : OpenR) : a = b ↔ a.client = b.client ∧ a.epoch = b.epoch ∧ a.seq = b.seq ∧ a.n = b.n ∧ a.t = b.t ∧ a.last = b.last ∧ a.until_ = b.until_ := by cases a; cases b; simp
def OpenR.wf (c : OpenR) : Prop := inI c.client ∧ inI c.epoch ∧ inI c.seq ∧ inI c.n ∧ c.t.wf ∧ c.last.wf ∧ inI c.until_

structure HostR where
  s : StoreR
  rows : List RowR
  opens : List OpenR
  now : Int
  lease : Int
  deriving DecidableEq
def HostR.enc (c : HostR) : List AV := c.s.enc ++ [encL RowR.enc c.rows, encL OpenR.enc c.opens, I c.now, I c.lease]
def HostR.zero : HostR := ⟨.zero, [], [], 0, 0⟩
@[simp] theorem HostR.neat (c : HostR) : c.enc.all neat = true := by simp [HostR.enc]
@[simp] theorem all_HostR (l : List HostR) : (l.flatMap HostR.enc).all neat = true := all_flat HostR.neat l
@[simp] theorem HostR.one (c : HostR) : c.enc.all isOne = true := rfl
@[simp high] theorem one_HostR (l : List HostR) : (l.flatMap HostR.enc).all isOne = true := one_flat HostR.one l
@[simp high] theorem lenc_HostR (x : HostR) : x.enc.length = 7 := rfl
@[simp high] theorem takec_HostR (x : HostR) : x.enc.take 7 = x.enc := List.take_of_length_le (Nat.le_refl _)
@[simp high] theorem len_HostR (l : List HostR) : (l.flatMap HostR.enc).length = l.length * 7 := len_flat (enc := HostR.enc) (k := 7) (fun _ => rfl) l
@[simp high] theorem take_HostR (l : List HostR) : (l.flatMap HostR.enc).take (l.length * 7) = l.flatMap HostR.enc := take_all (enc := HostR.enc) (k := 7) (fun _ => rfl) l
@[simp high] theorem at_HostR {l : List HostR} {i : Nat} (h : i < l.length) : List.take 7 (List.drop (i * 7) (l.flatMap HostR.enc)) = (l[i]).enc := cells_at (enc := HostR.enc) (k := 7) (fun _ => rfl) l i l[i] (by simp [h])
@[simp high] theorem at0_HostR {l : List HostR} (h : 0 < l.length) : List.take 7 (l.flatMap HostR.enc) = (l[0]).enc := by have := at_HostR (l := l) h; simpa using this
@[simp high] theorem at1_HostR {l : List HostR} (h : 1 < l.length) : List.take 7 (List.drop 7 (l.flatMap HostR.enc)) = (l[1]).enc := by have := at_HostR (l := l) h; simpa using this
theorem takes_HostR (l : List HostR) (n : Nat) : (l.flatMap HostR.enc).take (n * 7) = (l.take n).flatMap HostR.enc := take_flat (enc := HostR.enc) (k := 7) (fun _ => rfl) l n
theorem drops_HostR (l : List HostR) (n : Nat) : (l.flatMap HostR.enc).drop (n * 7) = (l.drop n).flatMap HostR.enc := drop_flat (enc := HostR.enc) (k := 7) (fun _ => rfl) l n
theorem HostR.eq_iff (a b : HostR) : a = b ↔ a.s = b.s ∧ a.rows = b.rows ∧ a.opens = b.opens ∧ a.now = b.now ∧ a.lease = b.lease := by cases a; cases b; simp
def HostR.wf (c : HostR) : Prop := c.s.wf ∧ (∀ x ∈ c.rows, x.wf) ∧ (∀ x ∈ c.opens, x.wf) ∧ inI c.now ∧ inI c.lease

structure PutR where
  at_ : Int
  s : ByteArray
  deriving DecidableEq
def PutR.enc (c : PutR) : List AV := [I c.at_, S c.s]
def PutR.zero : PutR := ⟨0, .empty⟩
@[simp] theorem PutR.neat (c : PutR) : c.enc.all neat = true := by simp [PutR.enc]
@[simp] theorem all_PutR (l : List PutR) : (l.flatMap PutR.enc).all neat = true := all_flat PutR.neat l
@[simp] theorem PutR.one (c : PutR) : c.enc.all isOne = true := rfl
@[simp high] theorem one_PutR (l : List PutR) : (l.flatMap PutR.enc).all isOne = true := one_flat PutR.one l
@[simp high] theorem lenc_PutR (x : PutR) : x.enc.length = 2 := rfl
@[simp high] theorem takec_PutR (x : PutR) : x.enc.take 2 = x.enc := List.take_of_length_le (Nat.le_refl _)
@[simp high] theorem len_PutR (l : List PutR) : (l.flatMap PutR.enc).length = l.length * 2 := len_flat (enc := PutR.enc) (k := 2) (fun _ => rfl) l
@[simp high] theorem take_PutR (l : List PutR) : (l.flatMap PutR.enc).take (l.length * 2) = l.flatMap PutR.enc := take_all (enc := PutR.enc) (k := 2) (fun _ => rfl) l
@[simp high] theorem at_PutR {l : List PutR} {i : Nat} (h : i < l.length) : List.take 2 (List.drop (i * 2) (l.flatMap PutR.enc)) = (l[i]).enc := cells_at (enc := PutR.enc) (k := 2) (fun _ => rfl) l i l[i] (by simp [h])
@[simp high] theorem at0_PutR {l : List PutR} (h : 0 < l.length) : List.take 2 (l.flatMap PutR.enc) = (l[0]).enc := by have := at_PutR (l := l) h; simpa using this
@[simp high] theorem at1_PutR {l : List PutR} (h : 1 < l.length) : List.take 2 (List.drop 2 (l.flatMap PutR.enc)) = (l[1]).enc := by have := at_PutR (l := l) h; simpa using this
theorem takes_PutR (l : List PutR) (n : Nat) : (l.flatMap PutR.enc).take (n * 2) = (l.take n).flatMap PutR.enc := take_flat (enc := PutR.enc) (k := 2) (fun _ => rfl) l n
theorem drops_PutR (l : List PutR) (n : Nat) : (l.flatMap PutR.enc).drop (n * 2) = (l.drop n).flatMap PutR.enc := drop_flat (enc := PutR.enc) (k := 2) (fun _ => rfl) l n
theorem PutR.eq_iff (a b : PutR) : a = b ↔ a.at_ = b.at_ ∧ a.s = b.s := by cases a; cases b; simp
def PutR.wf (c : PutR) : Prop := inI c.at_ ∧ c.s.size ≤ maxLen

structure DiskR where
  kept : List ByteArray
  w : List PutR
  off : Bool
  deriving DecidableEq
def DiskR.enc (c : DiskR) : List AV := [enc1 S c.kept, encL PutR.enc c.w, B c.off]
def DiskR.zero : DiskR := ⟨[], [], false⟩
@[simp] theorem DiskR.neat (c : DiskR) : c.enc.all neat = true := by simp [DiskR.enc]
@[simp] theorem all_DiskR (l : List DiskR) : (l.flatMap DiskR.enc).all neat = true := all_flat DiskR.neat l
@[simp] theorem DiskR.one (c : DiskR) : c.enc.all isOne = true := rfl
@[simp high] theorem one_DiskR (l : List DiskR) : (l.flatMap DiskR.enc).all isOne = true := one_flat DiskR.one l
@[simp high] theorem lenc_DiskR (x : DiskR) : x.enc.length = 3 := rfl
@[simp high] theorem takec_DiskR (x : DiskR) : x.enc.take 3 = x.enc := List.take_of_length_le (Nat.le_refl _)
@[simp high] theorem len_DiskR (l : List DiskR) : (l.flatMap DiskR.enc).length = l.length * 3 := len_flat (enc := DiskR.enc) (k := 3) (fun _ => rfl) l
@[simp high] theorem take_DiskR (l : List DiskR) : (l.flatMap DiskR.enc).take (l.length * 3) = l.flatMap DiskR.enc := take_all (enc := DiskR.enc) (k := 3) (fun _ => rfl) l
@[simp high] theorem at_DiskR {l : List DiskR} {i : Nat} (h : i < l.length) : List.take 3 (List.drop (i * 3) (l.flatMap DiskR.enc)) = (l[i]).enc := cells_at (enc := DiskR.enc) (k := 3) (fun _ => rfl) l i l[i] (by simp [h])
@[simp high] theorem at0_DiskR {l : List DiskR} (h : 0 < l.length) : List.take 3 (l.flatMap DiskR.enc) = (l[0]).enc := by have := at_DiskR (l := l) h; simpa using this
@[simp high] theorem at1_DiskR {l : List DiskR} (h : 1 < l.length) : List.take 3 (List.drop 3 (l.flatMap DiskR.enc)) = (l[1]).enc := by have := at_DiskR (l := l) h; simpa using this
theorem takes_DiskR (l : List DiskR) (n : Nat) : (l.flatMap DiskR.enc).take (n * 3) = (l.take n).flatMap DiskR.enc := take_flat (enc := DiskR.enc) (k := 3) (fun _ => rfl) l n
theorem drops_DiskR (l : List DiskR) (n : Nat) : (l.flatMap DiskR.enc).drop (n * 3) = (l.drop n).flatMap DiskR.enc := drop_flat (enc := DiskR.enc) (k := 3) (fun _ => rfl) l n
theorem DiskR.eq_iff (a b : DiskR) : a = b ↔ a.kept = b.kept ∧ a.w = b.w ∧ a.off = b.off := by cases a; cases b; simp
def DiskR.wf (c : DiskR) : Prop := (∀ x ∈ c.kept, x.size ≤ maxLen) ∧ (∀ x ∈ c.w, x.wf)

structure RingR where
  from_ : Int
  many : Int
  deriving DecidableEq
def RingR.enc (c : RingR) : List AV := [I c.from_, I c.many]
def RingR.zero : RingR := ⟨0, 0⟩
@[simp] theorem RingR.neat (c : RingR) : c.enc.all neat = true := by simp [RingR.enc]
@[simp] theorem all_RingR (l : List RingR) : (l.flatMap RingR.enc).all neat = true := all_flat RingR.neat l
@[simp] theorem RingR.one (c : RingR) : c.enc.all isOne = true := rfl
@[simp high] theorem one_RingR (l : List RingR) : (l.flatMap RingR.enc).all isOne = true := one_flat RingR.one l
@[simp high] theorem lenc_RingR (x : RingR) : x.enc.length = 2 := rfl
@[simp high] theorem takec_RingR (x : RingR) : x.enc.take 2 = x.enc := List.take_of_length_le (Nat.le_refl _)
@[simp high] theorem len_RingR (l : List RingR) : (l.flatMap RingR.enc).length = l.length * 2 := len_flat (enc := RingR.enc) (k := 2) (fun _ => rfl) l
@[simp high] theorem take_RingR (l : List RingR) : (l.flatMap RingR.enc).take (l.length * 2) = l.flatMap RingR.enc := take_all (enc := RingR.enc) (k := 2) (fun _ => rfl) l
@[simp high] theorem at_RingR {l : List RingR} {i : Nat} (h : i < l.length) : List.take 2 (List.drop (i * 2) (l.flatMap RingR.enc)) = (l[i]).enc := cells_at (enc := RingR.enc) (k := 2) (fun _ => rfl) l i l[i] (by simp [h])
@[simp high] theorem at0_RingR {l : List RingR} (h : 0 < l.length) : List.take 2 (l.flatMap RingR.enc) = (l[0]).enc := by have := at_RingR (l := l) h; simpa using this
@[simp high] theorem at1_RingR {l : List RingR} (h : 1 < l.length) : List.take 2 (List.drop 2 (l.flatMap RingR.enc)) = (l[1]).enc := by have := at_RingR (l := l) h; simpa using this
theorem takes_RingR (l : List RingR) (n : Nat) : (l.flatMap RingR.enc).take (n * 2) = (l.take n).flatMap RingR.enc := take_flat (enc := RingR.enc) (k := 2) (fun _ => rfl) l n
theorem drops_RingR (l : List RingR) (n : Nat) : (l.flatMap RingR.enc).drop (n * 2) = (l.drop n).flatMap RingR.enc := drop_flat (enc := RingR.enc) (k := 2) (fun _ => rfl) l n
theorem RingR.eq_iff (a b : RingR) : a = b ↔ a.from_ = b.from_ ∧ a.many = b.many := by cases a; cases b; simp
def RingR.wf (c : RingR) : Prop := inI c.from_ ∧ inI c.many

structure LogR where
  at_ : Int
  used : Int
  first : Int
  many : Int
  deriving DecidableEq
def LogR.enc (c : LogR) : List AV := [I c.at_, I c.used, U c.first, I c.many]
def LogR.zero : LogR := ⟨0, 0, 0, 0⟩
@[simp] theorem LogR.neat (c : LogR) : c.enc.all neat = true := by simp [LogR.enc]
@[simp] theorem all_LogR (l : List LogR) : (l.flatMap LogR.enc).all neat = true := all_flat LogR.neat l
@[simp] theorem LogR.one (c : LogR) : c.enc.all isOne = true := rfl
@[simp high] theorem one_LogR (l : List LogR) : (l.flatMap LogR.enc).all isOne = true := one_flat LogR.one l
@[simp high] theorem lenc_LogR (x : LogR) : x.enc.length = 4 := rfl
@[simp high] theorem takec_LogR (x : LogR) : x.enc.take 4 = x.enc := List.take_of_length_le (Nat.le_refl _)
@[simp high] theorem len_LogR (l : List LogR) : (l.flatMap LogR.enc).length = l.length * 4 := len_flat (enc := LogR.enc) (k := 4) (fun _ => rfl) l
@[simp high] theorem take_LogR (l : List LogR) : (l.flatMap LogR.enc).take (l.length * 4) = l.flatMap LogR.enc := take_all (enc := LogR.enc) (k := 4) (fun _ => rfl) l
@[simp high] theorem at_LogR {l : List LogR} {i : Nat} (h : i < l.length) : List.take 4 (List.drop (i * 4) (l.flatMap LogR.enc)) = (l[i]).enc := cells_at (enc := LogR.enc) (k := 4) (fun _ => rfl) l i l[i] (by simp [h])
@[simp high] theorem at0_LogR {l : List LogR} (h : 0 < l.length) : List.take 4 (l.flatMap LogR.enc) = (l[0]).enc := by have := at_LogR (l := l) h; simpa using this
@[simp high] theorem at1_LogR {l : List LogR} (h : 1 < l.length) : List.take 4 (List.drop 4 (l.flatMap LogR.enc)) = (l[1]).enc := by have := at_LogR (l := l) h; simpa using this
theorem takes_LogR (l : List LogR) (n : Nat) : (l.flatMap LogR.enc).take (n * 4) = (l.take n).flatMap LogR.enc := take_flat (enc := LogR.enc) (k := 4) (fun _ => rfl) l n
theorem drops_LogR (l : List LogR) (n : Nat) : (l.flatMap LogR.enc).drop (n * 4) = (l.drop n).flatMap LogR.enc := drop_flat (enc := LogR.enc) (k := 4) (fun _ => rfl) l n
theorem LogR.eq_iff (a b : LogR) : a = b ↔ a.at_ = b.at_ ∧ a.used = b.used ∧ a.first = b.first ∧ a.many = b.many := by cases a; cases b; simp
def LogR.wf (c : LogR) : Prop := inI c.at_ ∧ inI c.used ∧ inU c.first ∧ inI c.many

structure KeepR where
  d : DiskR
  l : LogR
  h : HostR
  deriving DecidableEq
def KeepR.enc (c : KeepR) : List AV := c.d.enc ++ c.l.enc ++ c.h.enc
def KeepR.zero : KeepR := ⟨.zero, .zero, .zero⟩
@[simp] theorem KeepR.neat (c : KeepR) : c.enc.all neat = true := by simp [KeepR.enc]
@[simp] theorem all_KeepR (l : List KeepR) : (l.flatMap KeepR.enc).all neat = true := all_flat KeepR.neat l
@[simp] theorem KeepR.one (c : KeepR) : c.enc.all isOne = true := rfl
@[simp high] theorem one_KeepR (l : List KeepR) : (l.flatMap KeepR.enc).all isOne = true := one_flat KeepR.one l
@[simp high] theorem lenc_KeepR (x : KeepR) : x.enc.length = 14 := rfl
@[simp high] theorem takec_KeepR (x : KeepR) : x.enc.take 14 = x.enc := List.take_of_length_le (Nat.le_refl _)
@[simp high] theorem len_KeepR (l : List KeepR) : (l.flatMap KeepR.enc).length = l.length * 14 := len_flat (enc := KeepR.enc) (k := 14) (fun _ => rfl) l
@[simp high] theorem take_KeepR (l : List KeepR) : (l.flatMap KeepR.enc).take (l.length * 14) = l.flatMap KeepR.enc := take_all (enc := KeepR.enc) (k := 14) (fun _ => rfl) l
@[simp high] theorem at_KeepR {l : List KeepR} {i : Nat} (h : i < l.length) : List.take 14 (List.drop (i * 14) (l.flatMap KeepR.enc)) = (l[i]).enc := cells_at (enc := KeepR.enc) (k := 14) (fun _ => rfl) l i l[i] (by simp [h])
@[simp high] theorem at0_KeepR {l : List KeepR} (h : 0 < l.length) : List.take 14 (l.flatMap KeepR.enc) = (l[0]).enc := by have := at_KeepR (l := l) h; simpa using this
@[simp high] theorem at1_KeepR {l : List KeepR} (h : 1 < l.length) : List.take 14 (List.drop 14 (l.flatMap KeepR.enc)) = (l[1]).enc := by have := at_KeepR (l := l) h; simpa using this
theorem takes_KeepR (l : List KeepR) (n : Nat) : (l.flatMap KeepR.enc).take (n * 14) = (l.take n).flatMap KeepR.enc := take_flat (enc := KeepR.enc) (k := 14) (fun _ => rfl) l n
theorem drops_KeepR (l : List KeepR) (n : Nat) : (l.flatMap KeepR.enc).drop (n * 14) = (l.drop n).flatMap KeepR.enc := drop_flat (enc := KeepR.enc) (k := 14) (fun _ => rfl) l n
theorem KeepR.eq_iff (a b : KeepR) : a = b ↔ a.d = b.d ∧ a.l = b.l ∧ a.h = b.h := by cases a; cases b; simp
def KeepR.wf (c : KeepR) : Prop := c.d.wf ∧ c.l.wf ∧ c.h.wf

structure NetR where
  up : List ByteArray
  down : List ByteArray
  deriving DecidableEq
def NetR.enc (c : NetR) : List AV := [enc1 S c.up, enc1 S c.down]
def NetR.zero : NetR := ⟨[], []⟩
@[simp] theorem NetR.neat (c : NetR) : c.enc.all neat = true := by simp [NetR.enc]
@[simp] theorem all_NetR (l : List NetR) : (l.flatMap NetR.enc).all neat = true := all_flat NetR.neat l
@[simp] theorem NetR.one (c : NetR) : c.enc.all isOne = true := rfl
@[simp high] theorem one_NetR (l : List NetR) : (l.flatMap NetR.enc).all isOne = true := one_flat NetR.one l
@[simp high] theorem lenc_NetR (x : NetR) : x.enc.length = 2 := rfl
@[simp high] theorem takec_NetR (x : NetR) : x.enc.take 2 = x.enc := List.take_of_length_le (Nat.le_refl _)
@[simp high] theorem len_NetR (l : List NetR) : (l.flatMap NetR.enc).length = l.length * 2 := len_flat (enc := NetR.enc) (k := 2) (fun _ => rfl) l
@[simp high] theorem take_NetR (l : List NetR) : (l.flatMap NetR.enc).take (l.length * 2) = l.flatMap NetR.enc := take_all (enc := NetR.enc) (k := 2) (fun _ => rfl) l
@[simp high] theorem at_NetR {l : List NetR} {i : Nat} (h : i < l.length) : List.take 2 (List.drop (i * 2) (l.flatMap NetR.enc)) = (l[i]).enc := cells_at (enc := NetR.enc) (k := 2) (fun _ => rfl) l i l[i] (by simp [h])
@[simp high] theorem at0_NetR {l : List NetR} (h : 0 < l.length) : List.take 2 (l.flatMap NetR.enc) = (l[0]).enc := by have := at_NetR (l := l) h; simpa using this
@[simp high] theorem at1_NetR {l : List NetR} (h : 1 < l.length) : List.take 2 (List.drop 2 (l.flatMap NetR.enc)) = (l[1]).enc := by have := at_NetR (l := l) h; simpa using this
theorem takes_NetR (l : List NetR) (n : Nat) : (l.flatMap NetR.enc).take (n * 2) = (l.take n).flatMap NetR.enc := take_flat (enc := NetR.enc) (k := 2) (fun _ => rfl) l n
theorem drops_NetR (l : List NetR) (n : Nat) : (l.flatMap NetR.enc).drop (n * 2) = (l.drop n).flatMap NetR.enc := drop_flat (enc := NetR.enc) (k := 2) (fun _ => rfl) l n
theorem NetR.eq_iff (a b : NetR) : a = b ↔ a.up = b.up ∧ a.down = b.down := by cases a; cases b; simp
def NetR.wf (c : NetR) : Prop := (∀ x ∈ c.up, x.size ≤ maxLen) ∧ (∀ x ∈ c.down, x.size ≤ maxLen)

structure WorldR where
  k : KeepR
  l : List ClientR
  n : NetR
  lease : Int
  deriving DecidableEq
def WorldR.enc (c : WorldR) : List AV := c.k.enc ++ [encL ClientR.enc c.l] ++ c.n.enc ++ [I c.lease]
def WorldR.zero : WorldR := ⟨.zero, [], .zero, 0⟩
@[simp] theorem WorldR.neat (c : WorldR) : c.enc.all neat = true := by simp [WorldR.enc]
@[simp] theorem all_WorldR (l : List WorldR) : (l.flatMap WorldR.enc).all neat = true := all_flat WorldR.neat l
@[simp] theorem WorldR.one (c : WorldR) : c.enc.all isOne = true := rfl
@[simp high] theorem one_WorldR (l : List WorldR) : (l.flatMap WorldR.enc).all isOne = true := one_flat WorldR.one l
@[simp high] theorem lenc_WorldR (x : WorldR) : x.enc.length = 18 := rfl
@[simp high] theorem takec_WorldR (x : WorldR) : x.enc.take 18 = x.enc := List.take_of_length_le (Nat.le_refl _)
@[simp high] theorem len_WorldR (l : List WorldR) : (l.flatMap WorldR.enc).length = l.length * 18 := len_flat (enc := WorldR.enc) (k := 18) (fun _ => rfl) l
@[simp high] theorem take_WorldR (l : List WorldR) : (l.flatMap WorldR.enc).take (l.length * 18) = l.flatMap WorldR.enc := take_all (enc := WorldR.enc) (k := 18) (fun _ => rfl) l
@[simp high] theorem at_WorldR {l : List WorldR} {i : Nat} (h : i < l.length) : List.take 18 (List.drop (i * 18) (l.flatMap WorldR.enc)) = (l[i]).enc := cells_at (enc := WorldR.enc) (k := 18) (fun _ => rfl) l i l[i] (by simp [h])
@[simp high] theorem at0_WorldR {l : List WorldR} (h : 0 < l.length) : List.take 18 (l.flatMap WorldR.enc) = (l[0]).enc := by have := at_WorldR (l := l) h; simpa using this
@[simp high] theorem at1_WorldR {l : List WorldR} (h : 1 < l.length) : List.take 18 (List.drop 18 (l.flatMap WorldR.enc)) = (l[1]).enc := by have := at_WorldR (l := l) h; simpa using this
theorem takes_WorldR (l : List WorldR) (n : Nat) : (l.flatMap WorldR.enc).take (n * 18) = (l.take n).flatMap WorldR.enc := take_flat (enc := WorldR.enc) (k := 18) (fun _ => rfl) l n
theorem drops_WorldR (l : List WorldR) (n : Nat) : (l.flatMap WorldR.enc).drop (n * 18) = (l.drop n).flatMap WorldR.enc := drop_flat (enc := WorldR.enc) (k := 18) (fun _ => rfl) l n
theorem WorldR.eq_iff (a b : WorldR) : a = b ↔ a.k = b.k ∧ a.l = b.l ∧ a.n = b.n ∧ a.lease = b.lease := by cases a; cases b; simp
def WorldR.wf (c : WorldR) : Prop := c.k.wf ∧ (∀ x ∈ c.l, x.wf) ∧ c.n.wf ∧ inI c.lease

structure StepR where
  kind : Int
  i : Int
  j : Int
  keep : List Bool
  by_ : Int
  deriving DecidableEq
def StepR.enc (c : StepR) : List AV := [I c.kind, I c.i, I c.j, enc1 B c.keep, Y8 c.by_]
def StepR.zero : StepR := ⟨0, 0, 0, [], 0⟩
@[simp] theorem StepR.neat (c : StepR) : c.enc.all neat = true := by simp [StepR.enc]
@[simp] theorem all_StepR (l : List StepR) : (l.flatMap StepR.enc).all neat = true := all_flat StepR.neat l
@[simp] theorem StepR.one (c : StepR) : c.enc.all isOne = true := rfl
@[simp high] theorem one_StepR (l : List StepR) : (l.flatMap StepR.enc).all isOne = true := one_flat StepR.one l
@[simp high] theorem lenc_StepR (x : StepR) : x.enc.length = 5 := rfl
@[simp high] theorem takec_StepR (x : StepR) : x.enc.take 5 = x.enc := List.take_of_length_le (Nat.le_refl _)
@[simp high] theorem len_StepR (l : List StepR) : (l.flatMap StepR.enc).length = l.length * 5 := len_flat (enc := StepR.enc) (k := 5) (fun _ => rfl) l
@[simp high] theorem take_StepR (l : List StepR) : (l.flatMap StepR.enc).take (l.length * 5) = l.flatMap StepR.enc := take_all (enc := StepR.enc) (k := 5) (fun _ => rfl) l
@[simp high] theorem at_StepR {l : List StepR} {i : Nat} (h : i < l.length) : List.take 5 (List.drop (i * 5) (l.flatMap StepR.enc)) = (l[i]).enc := cells_at (enc := StepR.enc) (k := 5) (fun _ => rfl) l i l[i] (by simp [h])
@[simp high] theorem at0_StepR {l : List StepR} (h : 0 < l.length) : List.take 5 (l.flatMap StepR.enc) = (l[0]).enc := by have := at_StepR (l := l) h; simpa using this
@[simp high] theorem at1_StepR {l : List StepR} (h : 1 < l.length) : List.take 5 (List.drop 5 (l.flatMap StepR.enc)) = (l[1]).enc := by have := at_StepR (l := l) h; simpa using this
theorem takes_StepR (l : List StepR) (n : Nat) : (l.flatMap StepR.enc).take (n * 5) = (l.take n).flatMap StepR.enc := take_flat (enc := StepR.enc) (k := 5) (fun _ => rfl) l n
theorem drops_StepR (l : List StepR) (n : Nat) : (l.flatMap StepR.enc).drop (n * 5) = (l.drop n).flatMap StepR.enc := drop_flat (enc := StepR.enc) (k := 5) (fun _ => rfl) l n
theorem StepR.eq_iff (a b : StepR) : a = b ↔ a.kind = b.kind ∧ a.i = b.i ∧ a.j = b.j ∧ a.keep = b.keep ∧ a.by_ = b.by_ := by cases a; cases b; simp
def StepR.wf (c : StepR) : Prop := inI c.kind ∧ inI c.i ∧ inI c.j ∧ inY c.by_
end Go.Cx

set_option linter.unusedVariables false
set_option linter.unusedSimpArgs false
namespace Go.Cx
variable {P : Program} {Z : Nat → Prop} {κ : Nat → Slot} {h : AHeap} {w : World}

/-! ### one block in other words -/
theorem Wk.blk {n : Nat} {s : AState} (id : Nat) (y : ABlk) {x : ABlk} (hx : s.h[id]? = some x) (hy : ∀ (Z : Nat → Prop) (κ : Nat → Slot) (w : World), blkOk Z w κ id x → blkOk Z w κ id y) : Wk n s ⟨s.N, s.T, s.h.set id y⟩ := fun Z κ a w r hn =>
  ⟨κ, ⟨r.rel.reblk (List.getElem?_eq_some_iff.1 hx).1 (hy Z κ w (r.rel.blk id x hx)), r.size, r.tmps, r.defers⟩, .refl _ _ _, .refl _ _, by simpa using hn⟩
theorem blk_prefix {id ver : Nat} {cs : List AV} (m : Nat) (h : blkOk Z w κ id (.cells ver cs)) : blkOk Z w κ id (.cells ver (cs.take m)) := by
  obtain ⟨ob, sz, h1, h2⟩ := h
  refine ⟨ob, sz, h1, ?_⟩
  cases ob with
  | none => simp only at h2 ⊢; rw [h2]; simp
  | some b =>
    obtain ⟨c, E, us, h3, h4, h5, h6, h7⟩ := h2
    refine ⟨c, E, us.take m, h3, h4, Nat.le_trans (by simp; omega) h5, fun j u hj => ?_, h7.take m⟩
    rw [List.getElem?_take] at hj
    split at hj
    · exact h6 j u hj
    · cases hj
/-- A block is told as far as a length. -/
theorem Wk.prefix {n : Nat} {s : AState} (id ver m : Nat) {x : ABlk} {cs : List AV} (hx : s.h[id]? = some x) (hc : blkCells x = some (ver, cs)) : Wk n s ⟨s.N, s.T, s.h.set id (.cells ver (cs.take m))⟩ :=
  Wk.blk id _ hx fun Z κ w hb => blk_prefix m (blk_cells hb hc)

/-- An own block goes on as another one of itself. -/
theorem Wk.bump {n : Nat} {s : AState} (t id ver off m k : Nat) {cs : List AV} (ht : s.T t = .own id ver off m k) (hx : s.h[id]? = some (.cells ver cs)) : Wk n s ⟨s.N, put s.T t (.own id (ver + 1) off m k), s.h.set id (.cells (ver + 1) cs)⟩ := by
  intro Z κ a w r hn
  obtain ⟨ob, sz, h1, _⟩ := r.rel.blk id _ hx
  obtain ⟨r', e, st⟩ := rel_bump r.rel hx h1
  refine ⟨_, ⟨r', r.size, fun j => ?_, r.defers⟩, e, st.lt r.rel hn, by simpa using hn⟩
  show R Z w _ (put s.T t _ j) _
  by_cases hj : j = t
  · subst hj
    rw [put_same]
    have h2 := r.tmps j
    rw [ht] at h2
    generalize a.tmps.getD j undef = cc at h2
    cases h2 with
    | own g1 g2 g3 g4 =>
      refine .own g1 g2 g3 ?_
      simp only [refOk, h1] at g4
      simp only [refOk, upd_same]
      exact ⟨Nat.le_refl _, fun _ => g4.2 trivial⟩
  · rw [put_ne _ _ hj]; exact (r.tmps j).ext r.rel e st
/-- A new block stands in for an old one. -/
theorem Wk.move {n : Nat} {s : AState} (t id id2 ver off m k : Nat) {x : ABlk} {cs cs2 : List AV} (hne : id2 ≠ id) (ht : s.T t = .own id2 0 off m k) (hx : s.h[id]? = some x) (hc : blkCells x = some (ver, cs)) (hx2 : s.h[id2]? = some (.cells 0 cs2)) :
    Wk n s ⟨s.N, put s.T t (.own id (ver + 1) off m k), (s.h.set id (.cells (ver + 1) cs2)).set id2 .dead⟩ := by
  intro Z κ a w r hn
  obtain ⟨ob, sz, h1, _⟩ := blk_cells (r.rel.blk id _ hx) hc
  obtain ⟨ob2, sz2, h2, h2b⟩ := r.rel.blk id2 _ hx2
  have hid := (List.getElem?_eq_some_iff.1 hx).1
  have hid2 := (List.getElem?_eq_some_iff.1 hx2).1
  let κ' := upd (upd κ id (.live (ver + 1) ob2 sz2)) id2 .dead
  have k2 : κ' id2 = .dead := upd_same _ _ _
  have k1 : κ' id = .live (ver + 1) ob2 sz2 := by simp only [κ']; rw [upd_ne _ _ (Ne.symm hne), upd_same]
  have kn : ∀ j, j ≠ id → j ≠ id2 → κ' j = κ j := fun j a b => by simp only [κ']; rw [upd_ne _ _ b, upd_ne _ _ a]
  have st : StepAll κ κ' := fun j => by
    by_cases j2 : j = id2
    · subst j2; right; rw [k2, h2]; simp [Slot.step]
    · by_cases j1 : j = id
      · subst j1; right; rw [k1, h1]; simp [Slot.step]
      · right; rw [kn j j1 j2]; exact Slot.step_refl _
  have hal : ∀ b, alive κ' b → alive κ b := by
    rintro b ⟨j, v, s', hk⟩
    by_cases j2 : j = id2
    · subst j2; rw [k2] at hk; cases hk
    · by_cases j1 : j = id
      · subst j1; rw [k1] at hk; injection hk with _ e _; subst e; exact ⟨id2, _, _, h2⟩
      · rw [kn j j1 j2] at hk; exact ⟨j, v, s', hk⟩
  have e : Ext Z κ w Z κ' w := ⟨rfl, rfl, rfl, Nat.le_refl _, fun _ _ _ => rfl, fun _ h => h, fun _ h => .inl h, fun b ha => .inl (hal b ha)⟩
  refine ⟨κ', ⟨⟨r.rel.zlt, fun b hz ha => r.rel.za b hz (hal b ha), fun j hj => ?_, fun j y hy => ?_, ?_⟩, r.size, fun j => ?_, r.defers⟩, e, st.lt r.rel hn, by simpa using hn⟩
  · simp at hj
    rw [kn j (by omega) (by omega)]; exact r.rel.hole j hj
  · by_cases j2 : j = id2
    · subst j2
      rw [List.getElem?_set_self (by simpa using hid2)] at hy
      injection hy with hy; subst hy; exact k2
    · rw [List.getElem?_set_ne (Ne.symm j2)] at hy
      by_cases j1 : j = id
      · subst j1
        rw [List.getElem?_set_self hid] at hy
        injection hy with hy; subst hy
        refine ⟨ob2, sz2, k1, ?_⟩
        cases ob2 with
        | none => exact h2b
        | some b =>
          obtain ⟨c, E, us, h3, h4, h5, h6, h7⟩ := h2b
          exact ⟨c, E, us, h3.up (Nat.zero_le _), h4, h5, h6, h7.ext r.rel e st⟩
      · rw [List.getElem?_set_ne (Ne.symm j1)] at hy
        exact (r.rel.blk j y hy).ext r.rel e st (kn j j1 j2) fun _ _ _ _ => rfl
  · intro j j' v v' b s1 s2 g1 g2
    by_cases j2 : j = id2
    · subst j2; rw [k2] at g1; cases g1
    · by_cases j2' : j' = id2
      · subst j2'; rw [k2] at g2; cases g2
      · by_cases j1 : j = id <;> by_cases j1' : j' = id
        · rw [j1, j1']
        · subst j1
          rw [k1] at g1; rw [kn j' j1' j2'] at g2
          injection g1 with _ e1 _; subst e1
          exact absurd (r.rel.inj _ _ _ _ _ _ _ h2 g2) (Ne.symm j2')
        · subst j1'
          rw [k1] at g2; rw [kn j j1 j2] at g1
          injection g2 with _ e1 _; subst e1
          exact absurd (r.rel.inj _ _ _ _ _ _ _ h2 g1) (Ne.symm j2)
        · rw [kn j j1 j2] at g1; rw [kn j' j1' j2'] at g2
          exact r.rel.inj _ _ _ _ _ _ _ g1 g2
  · show R Z w κ' (put s.T t _ j) _
    by_cases hj : j = t
    · subst hj
      rw [put_same]
      have g := r.tmps j
      rw [ht] at g
      generalize a.tmps.getD j undef = cc at g
      cases g with
      | own g1 g2 g3 g4 =>
        refine .own g1 g2 g3 ?_
        simp only [refOk, h2] at g4
        simp only [refOk, k1]
        exact ⟨Nat.le_refl _, fun _ => g4.2 trivial⟩
    · rw [put_ne _ _ hj]; exact (r.tmps j).ext r.rel e st

def WkZ (n : Nat) (s s' : AState) : Prop :=
  ∀ (Z : Nat → Prop) (κ : Nat → Slot) (a : Act) (w : World), SRel Z κ s a w → n ≤ s.h.length → ∃ Z' κ', SRel Z' κ' s' a w ∧ Ext Z κ w Z' κ' w ∧ StepLt n κ κ' ∧ n ≤ s'.h.length
theorem AW.wkZ {n : Nat} {c : Code} {Q : Exit → AState → Prop} {s s' : AState} (hw : WkZ n s s') (hx : AW P n c Q s') : AW P n c Q s := fun Z κ a w r hn => by
  obtain ⟨Z2, κ2, r2, e2, st2, n2⟩ := hw Z κ a w r hn
  exact wp_mono (hx Z2 κ2 a w r2 n2) fun e a' w' ha => ha.trans e2 st2
/-- Own blocks are given away: nobody writes them any more. -/
theorem WkZ.freeze {n : Nat} {s : AState} (D : List Nat) (t : Nat) (v' : AV) (hv : fzD s.h D 12 (s.T t) = some v') : WkZ n s ⟨s.N, put s.T t v', kill D s.h⟩ := by
  intro Z κ a w r hn
  obtain ⟨r1, e1⟩ := rel_kill D r.rel
  have st : StepAll κ (killK D κ) := fun id => .inr (killK_step D κ id)
  refine ⟨_, _, ⟨r1, r.size, fun j => ?_, r.defers⟩, e1, st.lt r.rel hn, by simpa [killF_len] using hn⟩
  show R _ w _ (put s.T t v' j) _
  by_cases hj : j = t
  · subst hj; rw [put_same]; exact fzD_ok r.rel 12 _ _ _ hv (r.tmps j)
  · rw [put_ne _ _ hj]; exact (r.tmps j).ext r.rel e1 st

/-! ### at the beginning -/
def WkE {ι : Type} (n : Nat) (s : AState) (S : ι → AState) : Prop :=
  ∀ (Z : Nat → Prop) (κ : Nat → Slot) (a : Act) (w : World), SRel Z κ s a w → n ≤ s.h.length → ∃ i κ', SRel Z κ' (S i) a w ∧ Ext Z κ w Z κ' w ∧ StepLt n κ κ' ∧ n ≤ (S i).h.length
theorem WkE.one (n : Nat) (s : AState) : WkE n s (fun _ : Unit => s) := fun Z κ a w r hn => ⟨(), κ, r, .refl _ _ _, .refl _ _, hn⟩
/-- The whole of a block: how much room there is. -/
def roomS (s : AState) (id ver k : Nat) (cs : List AV) (cap : Nat) : AState := ⟨s.N, s.T, s.h.set id (.full ver (cs ++ List.replicate (cap * k - cs.length) .any))⟩
theorem WkE.full {s : AState} {n t id ver m k : Nat} {cs : List AV} (ht : s.T t = .own id ver 0 m k) (hx : s.h[id]? = some (.cells ver cs)) (hm : 0 < m) (hl : cs.length = m * k) (hv : ver < bigV := by decide) :
    WkE n s (fun cap : { cap : Nat // m ≤ cap ∧ cap ≤ maxLen } => roomS s id ver k cs cap.1) := by
  intro Z κ a w r hn
  have g := r.tmps t
  rw [ht] at g
  have hid := (List.getElem?_eq_some_iff.1 hx).1
  rcases own_slice r.rel g hx with ⟨_, _, _, _, _, h0, _⟩ | ⟨b, sz, arr, E, us, cap, a0, e1, e2, e3, e4, e5, e6, e7, e8, e9, e10, e11, e12⟩
  · omega
  · refine ⟨⟨cap, e3, by omega⟩, κ, ⟨r.rel.reblk hid ?_, r.size, r.tmps, r.defers⟩, .refl _ _ _, .refl _ _, by simpa [roomS] using hn⟩
    have hul := e12.length
    have hsz : cap * k = arr.size := by rw [e9, ← e4]; simp
    refine ⟨b, arr, E, by rw [e9]; exact e1, e8.strict hv, ?_, hv⟩
    have hsplit : arr.toList = us ++ arr.toList.drop us.length := by
      apply List.ext_getElem?
      intro j
      by_cases hj : j < us.length
      · rw [List.getElem?_append_left hj]
        have := e11 j us[j] (by simp [hj])
        simpa [hj] using this
      · rw [List.getElem?_append_right (by omega), List.getElem?_drop]
        congr 1; omega
    rw [hsplit]
    refine e12.append ?_
    have hlen : (arr.toList.drop us.length).length = cap * k - cs.length := by simp [hsz, hul]
    generalize arr.toList.drop us.length = l at hlen
    rw [← hlen]
    clear hlen hsplit
    induction l with
    | nil => exact .nil
    | cons x l ih => exact .cons .any ih

/-! ### at the end -/
def PostW (P : Program) (n : Nat) (rs : List ResultVar) (v : AV) (h1 : AHeap) (e : Exit) (s : AState) : Prop := ∃ s', Wk n s s' ∧ PostO P rs v h1 e s'
@[simp] theorem PostW_def (n : Nat) (rs : List ResultVar) (v : AV) (h1 : AHeap) (e : Exit) (s : AState) : PostW P n rs v h1 e s = ∃ s', Wk n s s' ∧ (isEnd e = true ∧ (rs.mapM (resA P s')).map resV = some v ∧ s'.h.take h1.length = h1) := rfl

theorem ACall.ownG {ι : Type} {f : FuncId} {fn : Func} {c : Code} {rs : List ResultVar} {N : Nat} {args : List AV} {h1 : AHeap} {v : AV} (S : ι → AState) (lit : TypeId → Bool) (hf : P.funcs[f]? = some fn) (hb : fn.body = some c) (hrs : fn.results.toList = rs) (hN : args.length + (fn.ntmps - args.length) = N) (he : Ent P f)
    (hv : refsLt h1.length v = true) (hl : h.length ≤ h1.length) (hh1 : h1.all (ABlk.refsLt h1.length) = true) (hS : WkE h.length ⟨N, initT args, h⟩ S)
    (hx : ∀ i, AX P lit h.length c (PostW P h.length rs v h1) (S i)) : ACall P f args h (fun v' h' => v' = v ∧ h' = h1) := by
  subst hrs hN
  refine ⟨he, fun Z κ w cargs r hr => ?_⟩
  have hs0 : SRel Z κ ⟨args.length + (fn.ntmps - args.length), initT args, h⟩ { tmps := cargs.toArray ++ Array.replicate (fn.ntmps - cargs.toArray.size) undef, defers := [] } w := by
    have hl := hr.length
    refine ⟨r, by simp [hl], fun j => ?_, rfl⟩
    simp only [initT, Array.getD_eq_getD_getElem?, Array.getElem?_append, List.size_toArray, List.getD]
    by_cases hj : j < cargs.length
    · rw [if_pos hj]
      obtain ⟨v, hv, hvr⟩ := hr.get j (args[j]'(by omega)) (by simp [hl ▸ hj])
      have : args[j]? = some (args[j]'(by omega)) := by simp [hl ▸ hj]
      rw [this]
      simpa [hv] using hvr
    · rw [if_neg hj]
      have : args[j]? = none := List.getElem?_eq_none (by omega)
      rw [this]
      exact .any
  obtain ⟨i, κ0, rs0, ex0, st0, hn0⟩ := hS Z κ _ w hs0 (Nat.le_refl _)
  refine calls_of_wp hf hb (wp_mono (AX_ok c _ _ (hx i) Z κ0 _ w rs0 hn0) ?_)
  intro e a' w' ha
  obtain ⟨s', Z', κ', ⟨s2, hwk, hq⟩, r', ex, st, hn⟩ := ha
  obtain ⟨κ2, r2, ex2, st2, hn2⟩ := hwk Z' κ' a' w' r' hn
  obtain ⟨he', hm, hz⟩ := hq
  obtain ⟨vs, hm, hvs⟩ := Option.map_eq_some_iff.1 hm
  obtain ⟨cv, hrun, hcv⟩ := results_ok (P := P) r2 hm
  obtain ⟨r3, e3⟩ := rel_cut r2.rel (n := h1.length) (by rw [hz]; exact hh1)
  rw [hz] at r3
  rw [hvs] at hcv
  have hcv2 : R (cutZ h1.length Z' κ2) w' (cutK h1.length κ2) v cv :=
    (hcv.lt hv (fun j hj => show cutK h1.length κ2 j = κ2 j by simp [cutK, hj])).imp (fun b hz => ⟨.inl hz, rfl⟩) (fun j => .inr (Slot.step_refl _))
  have fin : ∃ v' h' Z2 κ2 c, (v' = v ∧ h' = h1) ∧ Ending.returned cv = .returned c ∧ Rel Z2 κ2 h' w' ∧ R Z2 w' κ2 v' c ∧ Ext Z κ w Z2 κ2 w' ∧ StepLt h.length κ κ2 :=
    ⟨v, h1, _, _, cv, ⟨rfl, rfl⟩, rfl, r3, hcv2, ex0.trans (ex.trans (ex2.trans e3)), (st0.trans (st.trans st2)).trans ((stepLt_cut h1.length κ2).mono hl)⟩
  have hd := r2.defers
  cases e with
  | normal => exact ⟨hd, cv, hrun, fin⟩
  | ret => exact ⟨hd, cv, hrun, fin⟩
  | exit id => simp [isEnd] at he'
  | goto l => simp [isEnd] at he'
  | panic ch => simp [isEnd] at he'
  | outgrown => simp [isEnd] at he'
theorem XCall.mkG {ι : Type} {f : FuncId} {fn : Func} {c : Code} {rs : List ResultVar} {N : Nat} {args : List AV} {h0 h1 : AHeap} {v : AV} (S : AState → ι → AState) (lit : TypeId → Bool) (hf : P.funcs[f]? = some fn) (hb : fn.body = some c) (hrs : fn.results.toList = rs) (hN : args.length + (fn.ntmps - args.length) = N) (he : Ent P f)
    (ha : args.all (refsLt h0.length) = true) (hh : h0.all (ABlk.refsLt h0.length) = true) (hv : refsLt h1.length v = true) (hl : h0.length ≤ h1.length) (hh1 : h1.all (ABlk.refsLt h1.length) = true)
    (hx : args.all fits = true → WkE h0.length ⟨N, initT args, h0⟩ (S ⟨N, initT args, h0⟩) ∧ ∀ i, AX P lit h0.length c (PostW P h0.length rs v h1) (S ⟨N, initT args, h0⟩ i)) : XCall P f args h0 v h1 := by
  refine ⟨ha, hh, hv, hl, hh1, ?_⟩
  by_cases hfit : args.all fits = true
  · exact ACall.ownG (S ⟨N, initT args, h0⟩) lit hf hb hrs hN he hv hl hh1 (hx hfit).1 (hx hfit).2
  · exact ⟨he, fun Z κ w cargs r hr => absurd hr.fits hfit⟩
theorem ADcall.fresh {f : FuncId} {cap args args0 : List AV} {h0 h1 : AHeap} {v : AV} {K : AV → AHeap → Prop} {D : List Nat} (L : List Nat) (hc : XCall P f args0 h0 v h1) (ha : args ++ cap = args0.map (ren (ρL L))) (hb : atB (ρL L) h 0 h0)
    (hq : K (ren (Cx.grow (ρL L) h0.length h.length) v) (Cx.lay (Cx.grow (ρL L) h0.length h.length) 0 (h1.take h0.length) h ++ (h1.drop h0.length).map (renB (Cx.grow (ρL L) h0.length h.length)))) (hn : L.Nodup := by decide) (hl : L.length = h0.length := by rfl) : ADcall P D .e (.fn f cap) args h K :=
  ⟨_, _, .of (hc.at L hn hl ha hb), hq⟩

/-! ### slices.overlaps -/
theorem run_overlaps {tS tR e : TypeId} (ht : P.underlying tS = some (.slice e)) {size : Nat} (hk : tsize P e = some size) (A B : Option Addr) (la ca lb cb : Nat)
    (hab : ∀ a b, A = some a → B = some b → 0 < la → 0 < lb → a.block ≠ b.block ∧ (∃ (arr : Array Value) (E : TypeId) (fr : Nat × Nat), w.heap[a.block]? = some (.cells arr E fr) ∧ 0 < arr.size) ∧ ∃ (arr : Array Value) (E : TypeId), w.heap[b.block]? = some (.cells arr E (0, 0)) ∧ 0 < arr.size) :
    (Extern.SlicesOverlaps.overlaps #[tS, tS] #[tR] #[.slice A la ca, .slice B lb cb]).run P w = .ok (.bool false) w := by
  change Sem.run P (α := Value) (do
    let some t := (#[tS, tS] : Array TypeId)[0]? | stuck "slices.overlaps: no parameter types"
    let .slice elem ← underlying t | stuck "slices.overlaps: slice type expected"
    let size ← sizeOf elem
    match A, B with
    | some a, some b =>
      if la = 0 ∨ lb = 0 ∨ size = 0 then pure (Value.bool false)
      else if a.block != b.block && (← frozen a) && (← frozen b) then unsupported .addressObserved
      else do
        if a.block != b.block then do
          noView a; noView b
          if ← mayBeOne a b then return Value.bool ((← choose (.extern "sameAddr.stringBytes" 2)) == 1)
        pure (Value.bool (a.block == b.block && a.off < b.off + lb * size && b.off < a.off + la * size))
    | _, _ => pure (Value.bool false)) w = _
  have hz := run_tsize (P := P) hk
  cases A with
  | none => simp [run_underlying ht, hz]
  | some a => cases B with
    | none => simp [run_underlying ht, hz]
    | some b =>
      by_cases h0 : la = 0 ∨ lb = 0 ∨ size = 0
      · simp [run_underlying ht, hz, h0]
      · obtain ⟨hne, ⟨arr, E, fr, h1, h2⟩, arr', E', h3, h4⟩ := hab a b rfl rfl (by omega) (by omega)
        have hnb : (a.block != b.block) = true := by simpa using hne
        have hnb' : (a.block == b.block) = false := by simpa using hne
        have hsa : w.shape? a.block = some (E, arr.size) := by simp [World.shape?, h1]
        have hsb : w.shape? b.block = some (E', arr'.size) := by simp [World.shape?, h3]
        have hfb : w.frozen? b = false := by simp [World.frozen?, h3]
        have hfe : w.frozen? { block := b.block, off := arr'.size } = false := by simp [World.frozen?, h3]
        obtain ⟨m, hm⟩ : ∃ m, arr.size = m + 1 := ⟨arr.size - 1, by omega⟩
        obtain ⟨m', hm'⟩ : ∃ m, arr'.size = m + 1 := ⟨arr'.size - 1, by omega⟩
        rw [hm] at hsa
        rw [hm'] at hsb hfe
        cases hfa : w.frozen? a
        · cases hfx : w.frozen? { block := a.block, off := m + 1 } <;>
          simp [run_underlying ht, hz, h0, hnb, hnb', frozen, noView, viewAt, mayBeOne, stringish, shape, Sem.run, hsa, hsb, hfa, hfb, hfe, hfx]
        · simp [run_underlying ht, hz, h0, hnb, hnb', frozen, noView, viewAt, mayBeOne, stringish, shape, Sem.run, hsa, hsb, hfa, hfb, hfe]
/-- A slice that nobody writes, held against one's own. -/
theorem overlaps_ok {f : FuncId} {fn : Func} {tS tR : TypeId} {k : Nat} (hf : P.funcs[f]? = some fn) (hnm : (fn.name == "runtime.NumGoroutine") = false) (hb : fn.body.isNone = true) (hn : (Extern.findNext fn).isNone = true) (hp : fn.params = #[tS, tS]) (hr : fn.resultTypes = #[tR])
    (he : Extern.find fn = some (Extern.SlicesOverlaps.overlaps fn.params fn.resultTypes)) (ht : elemSize P tS = some k) (t : Bool) (la : Nat) (c : AV) (cs : List AV) (id ver off lb : Nat) {x : ABlk} (hx : h[id]? = some x) (hver : (blkCells x).map (·.1) = some ver) (hk0 : 0 < k) (Q : AV → AHeap → Prop) (hq : Q (.val (.bool false)) h) (hvb : ver < bigV := by decide) :
    AInv P (.fn f []) [.sl t la (c :: cs), .own id ver off lb k] h Q := by
  obtain ⟨e, hte, hke⟩ := run_elemSize ht
  refine .inr fun Z κ w cargs r hr' => ?_
  cases hr' with
  | cons h1 h2 =>
    rename_i v1 vs1
    cases h2 with
    | cons h2 h3 =>
      rename_i v2 vs2
      cases h3
      obtain ⟨⟨ver', cs'⟩, hc, hv⟩ := Option.map_eq_some_iff.1 hver
      simp only at hv
      subst hv
      have hfn : Extern.findNext fn = none := Option.isNone_iff_eq_none.1 hn
      have main : ∃ A B ca cb, v1 = .slice A la ca ∧ v2 = .slice B lb cb ∧ ∀ a b, A = some a → B = some b → 0 < la → 0 < lb → a.block ≠ b.block ∧ (∃ (arr : Array Value) (E : TypeId) (fr : Nat × Nat), w.heap[a.block]? = some (.cells arr E fr) ∧ 0 < arr.size) ∧ ∃ (arr : Array Value) (E : TypeId), w.heap[b.block]? = some (.cells arr E (0, 0)) ∧ 0 < arr.size := by
        cases h1 with
        | sl g1 g2 g3 g4 g5 g6 g7 =>
          rename_i a ca us
          rcases own_slice2 r h2 hx hc with ⟨_, A, _, rfl, _, h0, _⟩ | ⟨b, sz, arr, E, us', cap, a2, e1, rfl, e3, e4, e5, e6, e7, e8, e9, _⟩
          · exact ⟨some a, A, ca, 0, rfl, by rw [h0], fun a b _ _ _ hlb => by omega⟩
          · refine ⟨some a, some a2, ca, cap, rfl, rfl, fun a' b' ha hb' hla hlb => ?_⟩
            injection ha with ha; injection hb' with hb'
            subst ha hb'
            have e6' := e6 (by omega)
            subst e6'
            refine ⟨fun eb => r.za _ g5 ⟨id, ver', sz, by rw [e1, eb]⟩, ?_, arr, E, e8.strict hvb, ?_⟩
            · cases g7 with
              | cons q1 q2 =>
                have := g6 0 _ rfl
                have hadd : (a.add 0) = a := by simp [Addr.add]
                rw [hadd] at this
                unfold World.cell? at this
                split at this
                · rename_i c' E' fr' hh
                  refine ⟨c', E', fr', hh, ?_⟩
                  split at this
                  · cases this
                  · exact Nat.lt_of_le_of_lt (Nat.zero_le _) (Array.getElem?_eq_some_iff.1 this).1
                · cases this
            · rw [e9, ← e4]
              exact Nat.mul_pos (by omega) hk0
      obtain ⟨A, B, ca, cb, rfl, rfl, hm⟩ := main
      refine ⟨.val (.bool false), h, Z, κ, .bool false, w, hq, ?_, r, .val rfl, .refl _ _ _, .refl _ _⟩
      have ho := run_overlaps (P := P) (w := w) (tR := tR) hte hke A B la ca lb cb hm
      unfold callFunc
      simp only [Sem.run_bind, run_program, Result.andThen_ok, hf, hnm, hb, Bool.false_eq_true, if_false, if_true, hfn, he, hp, hr]
      simp [mark, Sem.run, ho]

@[simp] theorem cellsOf_mp (id : Nat) : cellsOf (.mp id) = some [.mp id] := rfl
@[simp] theorem cellsOf_fmap (ks vs : List AV) : cellsOf (.fmap ks vs) = some [.fmap ks vs] := rfl
@[simp] theorem isOne_mp (id : Nat) : isOne (.mp id) = true := rfl
@[simp] theorem isOne_fmap (ks vs : List AV) : isOne (.fmap ks vs) = true := rfl
/-! ### maps from numbers to numbers -/
def getM (m : List (Int × Int)) (k : Int) : Int := ((m.find? fun p => decide (p.1 = k)).map (·.2)).getD 0
def hasM (m : List (Int × Int)) (k : Int) : Bool := m.any fun p => decide (p.1 = k)
def setM (m : List (Int × Int)) (k x : Int) : List (Int × Int) := match m.findIdx? (fun p => decide (p.1 = k)) with
  | some j => m.set j (k, x)
  | none => m ++ [(k, x)]
abbrev mKs (m : List (Int × Int)) : List AV := m.map fun p => .val (.int .i64 p.1)
abbrev mVs (m : List (Int × Int)) : List AV := m.map fun p => .val (.int .i64 p.2)
theorem afind_ints (m : List (Int × Int)) (k : Int) : afind (.int .i64) (.int .i64 k) (mKs m) = some (m.findIdx? fun p => decide (p.1 = k)) := by
  induction m with
  | nil => rfl
  | cons p m ih =>
    simp only [List.map_cons, afind, Instr.sameNow, List.findIdx?_cons]
    by_cases hk : k = p.1
    · subst hk; simp
    · have : ¬ p.1 = k := fun e => hk e.symm
      have hb : (k == p.1) = false := by simpa using hk
      simp [hb, this, ih]
theorem findIdx_spec (m : List (Int × Int)) (k : Int) : (m.findIdx? (fun p => decide (p.1 = k)) = none ∧ hasM m k = false ∧ getM m k = 0) ∨ ∃ j v, m.findIdx? (fun p => decide (p.1 = k)) = some j ∧ m[j]? = some (k, v) ∧ hasM m k = true ∧ getM m k = v := by
  induction m with
  | nil => exact .inl ⟨rfl, rfl, rfl⟩
  | cons p m ih =>
    by_cases hk : p.1 = k
    · refine .inr ⟨0, p.2, by simp [List.findIdx?_cons, hk], by simp [← hk], by simp [hasM, hk], by simp [getM, hk]⟩
    · rcases ih with ⟨h1, h2, h3⟩ | ⟨j, v, h1, h2, h3, h4⟩
      · exact .inl ⟨by simp [List.findIdx?_cons, hk, h1], by simpa [hasM, hk] using h2, by simpa [getM, hk] using h3⟩
      · exact .inr ⟨j + 1, v, by simp [List.findIdx?_cons, hk, h1], by simpa using h2, by simpa [hasM, hk] using h3, by simpa [getM, hk] using h4⟩
@[simp high] theorem lookV_ints (m : List (Int × Int)) (k : Int) : lookV (.int .i64) (.int .i64 k) (some (.val (.int .i64 0))) (mKs m, mVs m) = some (.val (.int .i64 (getM m k)), hasM m k) := by
  unfold lookV
  rw [afind_ints]
  rcases findIdx_spec m k with ⟨h1, h2, h3⟩ | ⟨j, v, h1, h2, h3, h4⟩
  · rw [h1, h2, h3]; rfl
  · rw [h1, h3, h4]; simp [h2]
@[simp high] theorem insMap_ints (m : List (Int × Int)) (k x : Int) : insMap (.int .i64) (.int .i64 k) (.val (.int .i64 x)) (mKs m) (mVs m) = some (.map (mKs (setM m k x)) (mVs (setM m k x))) := by
  unfold insMap setM
  rw [afind_ints]
  rcases findIdx_spec m k with ⟨h1, h2, h3⟩ | ⟨j, v, h1, h2, h3, h4⟩
  · rw [h1]; simp
  · rw [h1]
    simp only [Option.some.injEq, ABlk.map.injEq]
    refine ⟨?_, by simp only [mVs, List.map_set]⟩
    have hj := (List.getElem?_eq_some_iff.1 h2).1
    simp only [mKs, List.map_set]
    apply List.ext_getElem?
    intro i
    rw [List.getElem?_set]
    split
    · rename_i hij
      subst hij
      have e : m[j] = (k, v) := by rw [List.getElem?_eq_getElem hj] at h2; injection h2
      simp [hj, e]
    · rfl
@[simp high] theorem lookV_ints0 (k : Int) : lookV (.int .i64) (.int .i64 k) (some (.val (.int .i64 0))) ([], []) = some (.val (.int .i64 0), false) := lookV_ints [] k
theorem getM_set (m : List (Int × Int)) (k x q : Int) : getM (setM m k x) q = if q = k then x else getM m q := by
  induction m with
  | nil =>
    simp only [setM, List.findIdx?_nil, List.nil_append, getM, List.find?_cons, List.find?_nil]
    by_cases h : q = k
    · subst h; simp
    · have : ¬ k = q := fun e => h e.symm
      simp [h, this]
  | cons p m ih =>
    unfold setM at ih ⊢
    rw [List.findIdx?_cons]
    by_cases hp : p.1 = k
    · simp only [hp, decide_true, if_true, List.set_cons_zero]
      unfold getM
      by_cases h : q = k
      · subst h; simp
      · have h' : ¬ k = q := fun e => h e.symm
        simp [h, h', hp]
    · simp only [hp, decide_false, Bool.false_eq_true, if_false]
      cases hf : m.findIdx? (fun p => decide (p.1 = k)) with
      | none =>
        rw [hf] at ih
        simp only [Option.map_none, List.cons_append] at ih ⊢
        unfold getM at ih ⊢
        by_cases h : p.1 = q
        · have : ¬ q = k := fun e => hp (h.trans e)
          simp [h, this]
        · simp only [List.find?_cons, h, decide_false]; exact ih
      | some j =>
        rw [hf] at ih
        simp only [Option.map_some, List.set_cons_succ] at ih ⊢
        unfold getM at ih ⊢
        by_cases h : p.1 = q
        · have : ¬ q = k := fun e => hp (h.trans e)
          simp [h, this]
        · simp only [List.find?_cons, h, decide_false]; exact ih
theorem hasM_set (m : List (Int × Int)) (k x q : Int) : hasM (setM m k x) q = (decide (q = k) || hasM m q) := by
  induction m with
  | nil => simp [setM, hasM, eq_comm]
  | cons p m ih =>
    unfold setM at ih ⊢
    rw [List.findIdx?_cons]
    by_cases hp : p.1 = k
    · simp only [hp, decide_true, if_true, List.set_cons_zero, hasM, List.any_cons]
      by_cases h : q = k
      · subst h; simp
      · have h' : ¬ k = q := fun e => h e.symm
        simp [h, h']
    · simp only [hp, decide_false, Bool.false_eq_true, if_false]
      cases hf : m.findIdx? (fun p => decide (p.1 = k)) with
      | none =>
        rw [hf] at ih
        simp only [Option.map_none, List.cons_append] at ih ⊢
        simp only [hasM, List.any_cons] at ih ⊢
        rw [ih]; simp only [Bool.or_left_comm]
      | some j =>
        rw [hf] at ih
        simp only [Option.map_some, List.set_cons_succ] at ih ⊢
        simp only [hasM, List.any_cons] at ih ⊢
        rw [ih]; simp only [Bool.or_left_comm]

/-! ### the greater, the lesser -/
@[simp] theorem evCall_max (P : Program) (h : AHeap) (t t' ty : TypeId) (cs : Array Bool) (k : IntKind) (a b : Int) : evCall P h .max [t, t'] ty cs [.val (.int k a), .val (.int k b)] = some (.val (.int k (max a b)), h) := by
  have e : (if b > a then b else a) = max a b := by split <;> omega
  simp only [evCall, abuiltinV, List.mapM_cons, List.mapM_nil, conc, builtin, Builtin.max_]
  simp [Builtin.max2, e, ofV, cellV]
@[simp] theorem evCall_min (P : Program) (h : AHeap) (t t' ty : TypeId) (cs : Array Bool) (k : IntKind) (a b : Int) : evCall P h .min [t, t'] ty cs [.val (.int k a), .val (.int k b)] = some (.val (.int k (min a b)), h) := by
  have e : (if b < a then b else a) = min a b := by split <;> omega
  simp only [evCall, abuiltinV, List.mapM_cons, List.mapM_nil, conc, builtin, Builtin.min_]
  simp [Builtin.min2, e, ofV, cellV]

/-! ### where a condition holds -/
theorem optBif {c : Prop} [Decidable c] {a : AV × AHeap} {K : AV → AHeap → Prop} (hc : c) (hk : K a.1 a.2) : optB (if c then some a else none) K := by rw [if_pos hc]; exact hk
theorem optBifX {c : Prop} [Decidable c] {a : AV × AHeap} {b : Option (AV × AHeap)} {K : AV → AHeap → Prop} (hc : c) (hk : K a.1 a.2) : optB (orX (if c then some a else none) b) K := by rw [if_pos hc]; exact hk
theorem optBifV {c : Prop} [Decidable c] {a : AV} {h : AHeap} {K : AV → AHeap → Prop} (hc : c) (hk : K a h) : optB (onV (if c then some a else none) h) K := by rw [if_pos hc]; exact hk

/-! ### lists in place -/
def putL {α : Type} (l : List α) (i : Nat) (m : List α) : List α := l.take i ++ m ++ l.drop (i + m.length)
theorem putAt_flat {α : Type} {enc : α → List AV} {k : Nat} (h : ∀ a, (enc a).length = k) (l : List α) (i : Nat) (m : List α) : putAt (l.flatMap enc) (i * k) (m.flatMap enc) = (putL l i m).flatMap enc := by
  unfold putAt putL
  rw [len_flat h, ← Nat.add_mul, take_flat h, drop_flat h]
  simp
theorem set_flat {α : Type} {enc : α → List AV} {k : Nat} (h : ∀ a, (enc a).length = k) (l : List α) (i : Nat) (x : α) (hi : i < l.length) : setMany (l.flatMap enc) (i * k) (enc x) = (l.set i x).flatMap enc := by
  have hl : i * k + k ≤ l.length * k := by rw [← Nat.succ_mul]; exact Nat.mul_le_mul_right _ hi
  rw [setMany_eq _ _ _ (by rw [h, len_flat h]; exact hl)]
  have := putAt_flat h l i [x]
  simp only [List.flatMap_cons, List.flatMap_nil, List.append_nil] at this
  rw [this]
  congr 1
  unfold putL
  rw [List.set_eq_take_append_cons_drop, if_pos hi]
  simp
/-! ### a list with one more -/
theorem split2 {L : List AV} {a n : Nat} (hl : L.length = n) (ha : a ≤ n) : L = L.take a ++ L.drop a ∧ (L.take a).length = a ∧ (L.drop a).length = n - a :=
  ⟨(List.take_append_drop a L).symm, by simp; omega, by simp; omega⟩
theorem ins_room {L A X : List AV} {a k n : Nat} (hl : L.length = n) (ha : a ≤ n) (hx : X.length = k) (hA : k ≤ A.length) :
    (putAt (putAt (L ++ A) (a + k) (((L ++ A).drop a).take (n - a))) a X).take (n + k) = L.take a ++ X ++ L.drop a := by
  obtain ⟨h1, h2, h3⟩ := split2 hl ha
  generalize L.take a = P at *
  generalize L.drop a = Q at *
  subst h1
  have e1 : (P ++ Q ++ A).drop a = Q ++ A := by rw [List.append_assoc, List.drop_left' h2]
  have e2 : (Q ++ A).take (n - a) = Q := by rw [List.take_left' h3]
  rw [e1, e2]
  obtain ⟨B, hB⟩ : ∃ B, B = (P ++ Q ++ A).take (a + k) := ⟨_, rfl⟩
  have e3 : putAt (P ++ Q ++ A) (a + k) Q = P ++ ((Q ++ A).take k ++ Q ++ (P ++ Q ++ A).drop (a + k + Q.length)) := by
    unfold putAt
    have : (P ++ Q ++ A).take (a + k) = P ++ (Q ++ A).take k := by
      rw [List.append_assoc, List.take_append, List.take_of_length_le (by omega)]
      congr 2; omega
    rw [this]; simp [List.append_assoc]
  rw [e3]
  have e4 : ((Q ++ A).take k).length = k := by rw [List.length_take, List.length_append]; omega
  generalize (Q ++ A).take k = C at *
  generalize (P ++ Q ++ A).drop (a + k + Q.length) = D
  unfold putAt
  rw [List.take_left' h2, hx]
  have e5 : (P ++ (C ++ Q ++ D)).drop (a + k) = Q ++ D := by
    have : P ++ (C ++ Q ++ D) = (P ++ C) ++ (Q ++ D) := by simp [List.append_assoc]
    rw [this, List.drop_left' (by simp; omega)]
  rw [e5]
  have : P ++ X ++ (Q ++ D) = (P ++ X ++ Q) ++ D := by simp [List.append_assoc]
  rw [this, List.take_left' (by simp; omega)]
theorem ins_grow {L A X Z : List AV} {a k n : Nat} (hl : L.length = n) (ha : a ≤ n) (hx : X.length = k) (hz : Z.length = n + k - a) :
    putAt (putAt ((L ++ A).take a ++ Z) a X) (a + k) (((L ++ A).drop a).take (n - a)) = L.take a ++ X ++ L.drop a := by
  obtain ⟨h1, h2, h3⟩ := split2 hl ha
  have e0 : (L ++ A).take a = L.take a := by rw [List.take_append_of_le_length (by omega)]
  rw [e0]
  generalize L.take a = P at *
  generalize L.drop a = Q at *
  subst h1
  have e1 : (P ++ Q ++ A).drop a = Q ++ A := by rw [List.append_assoc, List.drop_left' h2]
  have e2 : (Q ++ A).take (n - a) = Q := by rw [List.take_left' h3]
  rw [e1, e2]
  have e3 : putAt (P ++ Z) a X = P ++ X ++ Z.drop k := by
    unfold putAt
    rw [List.take_left' h2, hx, show a + k = P.length + k by omega, List.drop_append]
    simp
  rw [e3]
  unfold putAt
  have e4 : (P ++ X ++ Z.drop k).take (a + k) = P ++ X := by rw [List.take_left' (by simp; omega)]
  rw [e4, List.drop_eq_nil_of_le (by simp; omega)]
  simp
def insL {α : Type} (l : List α) (i : Nat) (x : α) : List α := l.take i ++ x :: l.drop i
theorem insL_flat {α : Type} {enc : α → List AV} {k : Nat} (h : ∀ a, (enc a).length = k) (l : List α) (i : Nat) (x : α) : (l.flatMap enc).take (i * k) ++ enc x ++ (l.flatMap enc).drop (i * k) = (insL l i x).flatMap enc := by
  rw [take_flat h, drop_flat h]; simp [insL]
@[simp] theorem insL_length {α : Type} (l : List α) (i : Nat) (x : α) : (insL l i x).length = l.length + 1 := by
  simp only [insL, List.length_append, List.length_cons, List.length_take, List.length_drop]; omega
theorem insL_end {α : Type} (l : List α) (x : α) : insL l l.length x = l ++ [x] := by simp [insL]
end Go.Cx

set_option linter.unusedVariables false
set_option linter.unusedSimpArgs false
namespace Go.Cx
variable {P : Program} {lit : TypeId → Bool} {n : Nat}

/-- A test of p: where it goes on if p, and if not. -/
class Tst (G : Prop) (p A B : outParam Prop) : Prop where
  go : (p → p = True → A) → (¬ p → p = False → B) → G
/-- A test of a truth. -/
class TstB (G : Prop) (t : outParam Bool) (A B : outParam Prop) : Prop where
  go : (t = true → t = true → A) → (t = false → t = false → B) → G
section
variable {Q : Exit → AState → Prop} {s : AState} {a b : Code} {p : Prop} [Decidable p] {t : Bool}
instance : Tst (condK P lit n a b Q s (.val (.bool (decide p)))) p (AX P lit n a Q s) (AX P lit n b Q s) := ⟨condK_dec⟩
instance : Tst (condK P lit n a b Q s (.val (.bool (!decide p)))) p (AX P lit n b Q s) (AX P lit n a Q s) := ⟨fun h1 h2 => condK_ndec h2 h1⟩
instance : TstB (condK P lit n a b Q s (.val (.bool t))) t (AX P lit n a Q s) (AX P lit n b Q s) := ⟨condK_b⟩
instance : TstB (condK P lit n a b Q s (.val (.bool (!t)))) t (AX P lit n b Q s) (AX P lit n a Q s) := ⟨fun h1 h2 => condK_nb h2 h1⟩
end
section
variable {o : Oper} {s : AState} {K : AState → Prop} {i : Nat} {want : Bool} {p : Prop} [Decidable p] {t : Bool}
instance : Tst (gdK P lit o s i want K (.val (.bool (decide p)))) p (gdK P lit o s i want K (.val (.bool true))) (gdK P lit o s i want K (.val (.bool false))) := ⟨gdK_dec⟩
instance : Tst (gdK P lit o s i want K (.val (.bool (!decide p)))) p (gdK P lit o s i want K (.val (.bool false))) (gdK P lit o s i want K (.val (.bool true))) := ⟨gdK_ndec⟩
instance : TstB (gdK P lit o s i want K (.val (.bool t))) t (gdK P lit o s i want K (.val (.bool true))) (gdK P lit o s i want K (.val (.bool false))) := ⟨gdK_b⟩
instance : TstB (gdK P lit o s i want K (.val (.bool (!t)))) t (gdK P lit o s i want K (.val (.bool false))) (gdK P lit o s i want K (.val (.bool true))) := ⟨fun h1 h2 => gdK_nb h2 h1⟩
end
section
variable {D : List Nat} {cc : CC} {k : Nat} {o : Oper} {s : AState} {K : AState → Prop} {i : Nat} {want : Bool} {p : Prop} [Decidable p] {t : Bool}
instance : Tst (gdD P lit D cc k o s i want K (.val (.bool (decide p)))) p (gdD P lit D cc k o s i want K (.val (.bool true))) (gdD P lit D cc k o s i want K (.val (.bool false))) := ⟨gdD_dec⟩
instance : Tst (gdD P lit D cc k o s i want K (.val (.bool (!decide p)))) p (gdD P lit D cc k o s i want K (.val (.bool false))) (gdD P lit D cc k o s i want K (.val (.bool true))) := ⟨gdD_ndec⟩
instance : TstB (gdD P lit D cc k o s i want K (.val (.bool t))) t (gdD P lit D cc k o s i want K (.val (.bool true))) (gdD P lit D cc k o s i want K (.val (.bool false))) := ⟨gdD_b⟩
instance : TstB (gdD P lit D cc k o s i want K (.val (.bool (!t)))) t (gdD P lit D cc k o s i want K (.val (.bool false))) (gdD P lit D cc k o s i want K (.val (.bool true))) := ⟨fun h1 h2 => gdD_nb h2 h1⟩
end

/-- A fact in other words. -/
class Nw (p : Prop) (q : outParam Prop) : Prop where
  nw : p → q
instance {a b : Int} : Nw (¬ a < b) (b ≤ a) := ⟨Int.not_lt.1⟩
instance {a b : Int} : Nw (¬ a ≤ b) (b < a) := ⟨Int.not_le.1⟩
instance {a b : Nat} : Nw (¬ a < b) (b ≤ a) := ⟨Nat.not_lt.1⟩
instance {a b : Nat} : Nw (¬ a ≤ b) (b < a) := ⟨Nat.not_le.1⟩
instance {a b : Int} : Nw (a < b) (¬ b ≤ a) := ⟨Int.not_le.2⟩
instance {a b : Int} : Nw (a ≤ b) (¬ b < a) := ⟨Int.not_lt.2⟩
instance {a b : Nat} : Nw (a < b) (¬ b ≤ a) := ⟨Nat.not_le.2⟩
instance {a b : Nat} : Nw (a ≤ b) (¬ b < a) := ⟨Nat.not_lt.2⟩

/-- A call that only computes, wherever it stands. -/
class Pc (G : Prop) (P : outParam Program) (f : outParam FuncId) (cap args : outParam (List AV)) (h : outParam AHeap) (K : outParam (AV → AHeap → Prop)) : Prop where
  go : ∀ {args' : List AV} {v : AV}, PCall P f args' v → args ++ cap = args' → K v h → G
/-- The same, its arguments lent. -/
class Lc (G : Prop) (P : outParam Program) (f : outParam FuncId) (cap args : outParam (List AV)) (h : outParam AHeap) (K : outParam (AV → AHeap → Prop)) : Prop where
  go : ∀ {args' : List AV} {v : AV}, PCall P f args' v → memFree v = true → (args ++ cap).mapM (frz h 0 12) = some args' → K v h → G
section
variable {f : FuncId} {cap args : List AV} {h : AHeap} {K : AV → AHeap → Prop} {D : List Nat}
instance : Pc (AInv P (.fn f cap) args h K) P f cap args h K := ⟨AInv.pure⟩
instance : Pc (ADcall P D .t (.fn f cap) args h K) P f cap args h K := ⟨fun hp ha hk => ADcall.pure hp ha hk⟩
instance : Lc (AInv P (.fn f cap) args h K) P f cap args h K := ⟨AInv.lend⟩
instance : Lc (ADcall P [] .q (.fn f cap) args h K) P f cap args h K := ⟨fun hp hm ha hk => ADcall.lend hp hm ha hk⟩
end
end Go.Cx

set_option linter.unusedVariables false
set_option linter.unusedSimpArgs false
namespace Go.Cx
variable {P : Program} {Z : Nat → Prop} {κ : Nat → Slot} {h : AHeap} {w : World}

theorem Rs_set_of {κ' : Nat → Slot} {w' : World} : ∀ {cs : List AV} {us : List Value} (j : Nat) (a : AV), Rs Z w κ' cs us → (∀ u, us[j]? = some u → R Z w κ' a u) → Rs Z w κ' (cs.set j a) us
  | _, _, j, a, .nil, _ => by simp [Rs.nil]
  | _, _, 0, a, .cons h1 h2, hr => .cons (hr _ rfl) h2
  | _, _, j + 1, a, .cons h1 h2, hr => .cons h1 (Rs_set_of (w' := w') j a h2 fun u hu => hr u (by simpa using hu))
/-- A nil row in a cell of a block is a row of one's own. -/
theorem Wk.ownNilCell {n : Nat} {s : AState} (id ver j k : Nat) {cs : List AV} (hx : s.h[id]? = some (.cells ver cs)) (hj : cs[j]? = some (.sl true 0 [])) :
    Wk n s ⟨s.N, s.T, (s.h.set id (.cells ver (cs.set j (.own s.h.length 0 0 0 k)))) ++ [.cells 0 []]⟩ := by
  intro Z κ a w r hn
  have hidl := (List.getElem?_eq_some_iff.1 hx).1
  have hh := r.rel.hole s.h.length (Nat.le_refl _)
  have hs : StepAll κ (upd κ s.h.length (.live 0 none 0)) := .upd (.inl hh)
  have hal : ∀ b, alive (upd κ s.h.length (.live 0 none 0)) b → alive κ b := by
    rintro b ⟨id, ver, sz, hk⟩
    by_cases hid : id = s.h.length
    · subst hid; rw [upd_same] at hk; cases hk
    · rw [upd_ne _ _ hid] at hk; exact ⟨id, ver, sz, hk⟩
  have e : Ext Z κ w Z (upd κ s.h.length (.live 0 none 0)) w := ⟨rfl, rfl, rfl, Nat.le_refl _, fun _ _ _ => rfl, fun _ h => h, fun _ h => .inl h, fun b ha => .inl (hal b ha)⟩
  refine ⟨_, ⟨⟨r.rel.zlt, fun b hz ha => r.rel.za b hz (hal b ha), fun id' hid' => ?_, fun id' x hx' => ?_, ?_⟩, r.size, fun j => (r.tmps j).ext r.rel e hs, r.defers⟩, e, hs.lt r.rel hn, by simp; omega⟩
  · simp at hid'
    rw [upd_ne _ _ (by omega)]; exact r.rel.hole id' (by omega)
  · by_cases hid : id' = s.h.length
    · subst hid
      simp at hx'
      subst hx'
      exact ⟨none, 0, upd_same _ _ _, rfl⟩
    · have hlt : id' < s.h.length := by
        have := (List.getElem?_eq_some_iff.1 hx').1
        simp at this; omega
      rw [List.getElem?_append_left (by simpa using hlt)] at hx'
      by_cases hii : id' = id
      · subst hii
        rw [List.getElem?_set_self hidl] at hx'
        injection hx' with hx'
        subst hx'
        obtain ⟨ob, sz, h1, h2⟩ := r.rel.blk id' _ hx
        refine ⟨ob, sz, by rw [upd_ne _ _ hid]; exact h1, ?_⟩
        cases ob with
        | none => subst h2; simp at hj
        | some b =>
          obtain ⟨c, E, us, h3, h4, h5, h6, h7⟩ := h2
          refine ⟨c, E, us, h3, h4, h5, h6, Rs_set_of (w' := w) j _ (h7.ext r.rel e hs) fun u hu => ?_⟩
          obtain ⟨u', hu', hr⟩ := h7.get j _ hj
          rw [hu] at hu'
          injection hu' with hu'
          subst hu'
          cases hr with
          | sl0 h2 h3 =>
            have h0 := h2 rfl
            subst h0
            refine .own (Nat.le_refl _) h3 (by simp) ?_
            simp [refOk, upd_same, ownAt]
          | sl h2 => omega
      · rw [List.getElem?_set_ne (Ne.symm hii)] at hx'
        exact (r.rel.blk id' x hx').ext r.rel e hs (upd_ne _ _ hid) fun _ _ _ _ => rfl
  · intro id id' ver ver' b sz sz' h1 h2
    by_cases hid : id = s.h.length
    · subst hid; rw [upd_same] at h1; cases h1
    · by_cases hid' : id' = s.h.length
      · subst hid'; rw [upd_same] at h2; cases h2
      · rw [upd_ne _ _ hid] at h1; rw [upd_ne _ _ hid'] at h2
        exact r.rel.inj _ _ _ _ _ _ _ h1 h2

/-- The one, then the other by itself. -/
theorem AW.seqA {lit : TypeId → Bool} {n : Nat} {x y : Code} {Q : Exit → AState → Prop} {s : AState} (hx : AX P lit n x (thenA (AW P n y Q) Q) s) : AW P n (.seq x y) Q s := fun Z κ a w r hn => by
  refine wp_seq (wp_mono (AX_ok x _ s hx Z κ a w r hn) fun e a' w' ha => ?_)
  cases e with
  | normal =>
    obtain ⟨s', Z', κ', hq, r', ex, st, hn'⟩ := ha
    exact wp_mono (hq Z' κ' a' w' r' hn') fun e2 a2 w2 h2 => h2.trans ex st
  | exit id => exact ha
  | goto l => exact ha
  | ret => exact ha
  | panic ch => exact ha
  | outgrown => exact ha
/-- A loop whose round is walked by itself. -/
theorem AW.loopGW {α : Type} {n : Nat} {c : Code} {Q : Exit → AState → Prop} {s : AState} (S : α → AState) (μ : α → Nat) (good : α → Prop) (x0 : α) (h0 : Wk n s (S x0)) (g0 : good x0)
    (hr : ∀ x, good x → ∀ A : AState → Prop, (∀ x' s', Wk n s' (S x') → good x' → μ x' < μ x → A s') → AW P n c (thenA A Q) (S x)) : AW P n (.loop c) Q s :=
  AW.loopFW S μ good x0 h0 g0 (fun x hx => hr x hx _ fun x' s' h1 h2 h3 => ⟨x', h1, h2, h3⟩)
end Go.Cx

namespace Go.Cx
@[simp high] theorem sets_CallR {l : List CallR} {i : Nat} (h : i < l.length) (x : CallR) : setMany (l.flatMap CallR.enc) (i * 8) x.enc = (l.set i x).flatMap CallR.enc := set_flat (enc := CallR.enc) (k := 8) (fun _ => rfl) l i x h
@[simp high] theorem puts_CallR (l : List CallR) (i : Nat) (m : List CallR) : putAt (l.flatMap CallR.enc) (i * 8) (m.flatMap CallR.enc) = (putL l i m).flatMap CallR.enc := putAt_flat (enc := CallR.enc) (k := 8) (fun _ => rfl) l i m
@[simp high] theorem hd0_CallR (c : CallR) : (c.enc).head? = some (I c.kind) := rfl
@[simp high] theorem gt0_CallR (c : CallR) : c.enc[0]? = some (I c.kind) := rfl
@[simp high] theorem hd1_CallR (c : CallR) : (c.enc.drop 1).head? = some (I c.ino) := rfl
@[simp high] theorem gt1_CallR (c : CallR) : c.enc[1]? = some (I c.ino) := rfl
@[simp high] theorem hd2_CallR (c : CallR) : (c.enc.drop 2).head? = some (I c.to_) := rfl
@[simp high] theorem gt2_CallR (c : CallR) : c.enc[2]? = some (I c.to_) := rfl
@[simp high] theorem hd3_CallR (c : CallR) : (c.enc.drop 3).head? = some (I c.at_) := rfl
@[simp high] theorem gt3_CallR (c : CallR) : c.enc[3]? = some (I c.at_) := rfl
@[simp high] theorem hd4_CallR (c : CallR) : (c.enc.drop 4).head? = some (I c.many) := rfl
@[simp high] theorem gt4_CallR (c : CallR) : c.enc[4]? = some (I c.many) := rfl
@[simp high] theorem hd5_CallR (c : CallR) : (c.enc.drop 5).head? = some (S c.name) := rfl
@[simp high] theorem gt5_CallR (c : CallR) : c.enc[5]? = some (S c.name) := rfl
@[simp high] theorem hd6_CallR (c : CallR) : (c.enc.drop 6).head? = some (S c.name2) := rfl
@[simp high] theorem gt6_CallR (c : CallR) : c.enc[6]? = some (S c.name2) := rfl
@[simp high] theorem hd7_CallR (c : CallR) : (c.enc.drop 7).head? = some (S c.text) := rfl
@[simp high] theorem gt7_CallR (c : CallR) : c.enc[7]? = some (S c.text) := rfl
@[simp high] theorem zset_CallR (c : CallR) : setMany [AV.val (Value.int IntKind.i64 0), AV.val (Value.int IntKind.i64 0), AV.val (Value.int IntKind.i64 0), AV.val (Value.int IntKind.i64 0), AV.val (Value.int IntKind.i64 0), AV.val (Value.string ByteArray.empty), AV.val (Value.string ByteArray.empty), AV.val (Value.string ByteArray.empty)] 0 c.enc = c.enc := rfl
theorem ins_CallR (l : List CallR) (i : Nat) (x : CallR) : (l.flatMap CallR.enc).take (i * 8) ++ x.enc ++ (l.flatMap CallR.enc).drop (i * 8) = (insL l i x).flatMap CallR.enc := insL_flat (enc := CallR.enc) (k := 8) (fun _ => rfl) l i x
@[simp high] theorem sets_ReplyR {l : List ReplyR} {i : Nat} (h : i < l.length) (x : ReplyR) : setMany (l.flatMap ReplyR.enc) (i * 6) x.enc = (l.set i x).flatMap ReplyR.enc := set_flat (enc := ReplyR.enc) (k := 6) (fun _ => rfl) l i x h
@[simp high] theorem puts_ReplyR (l : List ReplyR) (i : Nat) (m : List ReplyR) : putAt (l.flatMap ReplyR.enc) (i * 6) (m.flatMap ReplyR.enc) = (putL l i m).flatMap ReplyR.enc := putAt_flat (enc := ReplyR.enc) (k := 6) (fun _ => rfl) l i m
@[simp high] theorem hd0_ReplyR (c : ReplyR) : (c.enc).head? = some (I c.e) := rfl
@[simp high] theorem gt0_ReplyR (c : ReplyR) : c.enc[0]? = some (I c.e) := rfl
@[simp high] theorem hd1_ReplyR (c : ReplyR) : (c.enc.drop 1).head? = some (I c.a) := rfl
@[simp high] theorem gt1_ReplyR (c : ReplyR) : c.enc[1]? = some (I c.a) := rfl
@[simp high] theorem hd2_ReplyR (c : ReplyR) : (c.enc.drop 2).head? = some (I c.b) := rfl
@[simp high] theorem gt2_ReplyR (c : ReplyR) : c.enc[2]? = some (I c.b) := rfl
@[simp high] theorem hd3_ReplyR (c : ReplyR) : (c.enc.drop 3).head? = some (I c.n) := rfl
@[simp high] theorem gt3_ReplyR (c : ReplyR) : c.enc[3]? = some (I c.n) := rfl
@[simp high] theorem hd4_ReplyR (c : ReplyR) : (c.enc.drop 4).head? = some (S c.text) := rfl
@[simp high] theorem gt4_ReplyR (c : ReplyR) : c.enc[4]? = some (S c.text) := rfl
@[simp high] theorem hd5_ReplyR (c : ReplyR) : (c.enc.drop 5).head? = some (enc1 S c.names) := rfl
@[simp high] theorem gt5_ReplyR (c : ReplyR) : c.enc[5]? = some (enc1 S c.names) := rfl
@[simp high] theorem zset_ReplyR (c : ReplyR) : setMany [AV.val (Value.int IntKind.i64 0), AV.val (Value.int IntKind.i64 0), AV.val (Value.int IntKind.i64 0), AV.val (Value.int IntKind.i64 0), AV.val (Value.string ByteArray.empty), AV.sl true 0 []] 0 c.enc = c.enc := rfl
theorem ins_ReplyR (l : List ReplyR) (i : Nat) (x : ReplyR) : (l.flatMap ReplyR.enc).take (i * 6) ++ x.enc ++ (l.flatMap ReplyR.enc).drop (i * 6) = (insL l i x).flatMap ReplyR.enc := insL_flat (enc := ReplyR.enc) (k := 6) (fun _ => rfl) l i x
@[simp high] theorem sets_DoneR {l : List DoneR} {i : Nat} (h : i < l.length) (x : DoneR) : setMany (l.flatMap DoneR.enc) (i * 4) x.enc = (l.set i x).flatMap DoneR.enc := set_flat (enc := DoneR.enc) (k := 4) (fun _ => rfl) l i x h
@[simp high] theorem puts_DoneR (l : List DoneR) (i : Nat) (m : List DoneR) : putAt (l.flatMap DoneR.enc) (i * 4) (m.flatMap DoneR.enc) = (putL l i m).flatMap DoneR.enc := putAt_flat (enc := DoneR.enc) (k := 4) (fun _ => rfl) l i m
@[simp high] theorem hd0_DoneR (c : DoneR) : (c.enc).head? = some (I c.seq) := rfl
@[simp high] theorem gt0_DoneR (c : DoneR) : c.enc[0]? = some (I c.seq) := rfl
@[simp high] theorem hd1_DoneR (c : DoneR) : (c.enc.drop 1).head? = some (B c.yes) := rfl
@[simp high] theorem gt1_DoneR (c : DoneR) : c.enc[1]? = some (B c.yes) := rfl
@[simp high] theorem hd2_DoneR (c : DoneR) : (c.enc.drop 2).head? = some (I c.e) := rfl
@[simp high] theorem gt2_DoneR (c : DoneR) : c.enc[2]? = some (I c.e) := rfl
@[simp high] theorem hd3_DoneR (c : DoneR) : (c.enc.drop 3).head? = some (encL ReplyR.enc c.l) := rfl
@[simp high] theorem gt3_DoneR (c : DoneR) : c.enc[3]? = some (encL ReplyR.enc c.l) := rfl
@[simp high] theorem zset_DoneR (c : DoneR) : setMany [AV.val (Value.int IntKind.i64 0), AV.val (Value.bool false), AV.val (Value.int IntKind.i64 0), AV.sl true 0 []] 0 c.enc = c.enc := rfl
theorem ins_DoneR (l : List DoneR) (i : Nat) (x : DoneR) : (l.flatMap DoneR.enc).take (i * 4) ++ x.enc ++ (l.flatMap DoneR.enc).drop (i * 4) = (insL l i x).flatMap DoneR.enc := insL_flat (enc := DoneR.enc) (k := 4) (fun _ => rfl) l i x
@[simp high] theorem sets_EntryR {l : List EntryR} {i : Nat} (h : i < l.length) (x : EntryR) : setMany (l.flatMap EntryR.enc) (i * 2) x.enc = (l.set i x).flatMap EntryR.enc := set_flat (enc := EntryR.enc) (k := 2) (fun _ => rfl) l i x h
@[simp high] theorem puts_EntryR (l : List EntryR) (i : Nat) (m : List EntryR) : putAt (l.flatMap EntryR.enc) (i * 2) (m.flatMap EntryR.enc) = (putL l i m).flatMap EntryR.enc := putAt_flat (enc := EntryR.enc) (k := 2) (fun _ => rfl) l i m
@[simp high] theorem hd0_EntryR (c : EntryR) : (c.enc).head? = some (S c.name) := rfl
@[simp high] theorem gt0_EntryR (c : EntryR) : c.enc[0]? = some (S c.name) := rfl
@[simp high] theorem hd1_EntryR (c : EntryR) : (c.enc.drop 1).head? = some (I c.ino) := rfl
@[simp high] theorem gt1_EntryR (c : EntryR) : c.enc[1]? = some (I c.ino) := rfl
@[simp high] theorem zset_EntryR (c : EntryR) : setMany [AV.val (Value.string ByteArray.empty), AV.val (Value.int IntKind.i64 0)] 0 c.enc = c.enc := rfl
theorem ins_EntryR (l : List EntryR) (i : Nat) (x : EntryR) : (l.flatMap EntryR.enc).take (i * 2) ++ x.enc ++ (l.flatMap EntryR.enc).drop (i * 2) = (insL l i x).flatMap EntryR.enc := insL_flat (enc := EntryR.enc) (k := 2) (fun _ => rfl) l i x
@[simp high] theorem sets_NodeR {l : List NodeR} {i : Nat} (h : i < l.length) (x : NodeR) : setMany (l.flatMap NodeR.enc) (i * 5) x.enc = (l.set i x).flatMap NodeR.enc := set_flat (enc := NodeR.enc) (k := 5) (fun _ => rfl) l i x h
@[simp high] theorem puts_NodeR (l : List NodeR) (i : Nat) (m : List NodeR) : putAt (l.flatMap NodeR.enc) (i * 5) (m.flatMap NodeR.enc) = (putL l i m).flatMap NodeR.enc := putAt_flat (enc := NodeR.enc) (k := 5) (fun _ => rfl) l i m
@[simp high] theorem hd0_NodeR (c : NodeR) : (c.enc).head? = some (I c.ino) := rfl
@[simp high] theorem gt0_NodeR (c : NodeR) : c.enc[0]? = some (I c.ino) := rfl
@[simp high] theorem hd1_NodeR (c : NodeR) : (c.enc.drop 1).head? = some (I c.kind) := rfl
@[simp high] theorem gt1_NodeR (c : NodeR) : c.enc[1]? = some (I c.kind) := rfl
@[simp high] theorem hd2_NodeR (c : NodeR) : (c.enc.drop 2).head? = some (I c.links) := rfl
@[simp high] theorem gt2_NodeR (c : NodeR) : c.enc[2]? = some (I c.links) := rfl
@[simp high] theorem hd3_NodeR (c : NodeR) : (c.enc.drop 3).head? = some (S c.text) := rfl
@[simp high] theorem gt3_NodeR (c : NodeR) : c.enc[3]? = some (S c.text) := rfl
@[simp high] theorem hd4_NodeR (c : NodeR) : (c.enc.drop 4).head? = some (encL EntryR.enc c.l) := rfl
@[simp high] theorem gt4_NodeR (c : NodeR) : c.enc[4]? = some (encL EntryR.enc c.l) := rfl
@[simp high] theorem zset_NodeR (c : NodeR) : setMany [AV.val (Value.int IntKind.i64 0), AV.val (Value.int IntKind.i64 0), AV.val (Value.int IntKind.i64 0), AV.val (Value.string ByteArray.empty), AV.sl true 0 []] 0 c.enc = c.enc := rfl
theorem ins_NodeR (l : List NodeR) (i : Nat) (x : NodeR) : (l.flatMap NodeR.enc).take (i * 5) ++ x.enc ++ (l.flatMap NodeR.enc).drop (i * 5) = (insL l i x).flatMap NodeR.enc := insL_flat (enc := NodeR.enc) (k := 5) (fun _ => rfl) l i x
@[simp high] theorem sets_FSR {l : List FSR} {i : Nat} (h : i < l.length) (x : FSR) : setMany (l.flatMap FSR.enc) (i * 2) x.enc = (l.set i x).flatMap FSR.enc := set_flat (enc := FSR.enc) (k := 2) (fun _ => rfl) l i x h
@[simp high] theorem puts_FSR (l : List FSR) (i : Nat) (m : List FSR) : putAt (l.flatMap FSR.enc) (i * 2) (m.flatMap FSR.enc) = (putL l i m).flatMap FSR.enc := putAt_flat (enc := FSR.enc) (k := 2) (fun _ => rfl) l i m
@[simp high] theorem hd0_FSR (c : FSR) : (c.enc).head? = some (encL NodeR.enc c.l) := rfl
@[simp high] theorem gt0_FSR (c : FSR) : c.enc[0]? = some (encL NodeR.enc c.l) := rfl
@[simp high] theorem hd1_FSR (c : FSR) : (c.enc.drop 1).head? = some (I c.next) := rfl
@[simp high] theorem gt1_FSR (c : FSR) : c.enc[1]? = some (I c.next) := rfl
@[simp high] theorem zset_FSR (c : FSR) : setMany [AV.sl true 0 [], AV.val (Value.int IntKind.i64 0)] 0 c.enc = c.enc := rfl
theorem ins_FSR (l : List FSR) (i : Nat) (x : FSR) : (l.flatMap FSR.enc).take (i * 2) ++ x.enc ++ (l.flatMap FSR.enc).drop (i * 2) = (insL l i x).flatMap FSR.enc := insL_flat (enc := FSR.enc) (k := 2) (fun _ => rfl) l i x
@[simp high] theorem sets_ChangeR {l : List ChangeR} {i : Nat} (h : i < l.length) (x : ChangeR) : setMany (l.flatMap ChangeR.enc) (i * 7) x.enc = (l.set i x).flatMap ChangeR.enc := set_flat (enc := ChangeR.enc) (k := 7) (fun _ => rfl) l i x h
@[simp high] theorem puts_ChangeR (l : List ChangeR) (i : Nat) (m : List ChangeR) : putAt (l.flatMap ChangeR.enc) (i * 7) (m.flatMap ChangeR.enc) = (putL l i m).flatMap ChangeR.enc := putAt_flat (enc := ChangeR.enc) (k := 7) (fun _ => rfl) l i m
@[simp high] theorem hd0_ChangeR (c : ChangeR) : (c.enc).head? = some (I c.ino) := rfl
@[simp high] theorem gt0_ChangeR (c : ChangeR) : c.enc[0]? = some (I c.ino) := rfl
@[simp high] theorem hd1_ChangeR (c : ChangeR) : (c.enc.drop 1).head? = some (B c.gone) := rfl
@[simp high] theorem gt1_ChangeR (c : ChangeR) : c.enc[1]? = some (B c.gone) := rfl
@[simp high] theorem hd2_ChangeR (c : ChangeR) : (c.enc.drop 2).head? = some (I c.node.ino) := rfl
@[simp high] theorem gt2_ChangeR (c : ChangeR) : c.enc[2]? = some (I c.node.ino) := rfl
@[simp high] theorem hd3_ChangeR (c : ChangeR) : (c.enc.drop 3).head? = some (I c.node.kind) := rfl
@[simp high] theorem gt3_ChangeR (c : ChangeR) : c.enc[3]? = some (I c.node.kind) := rfl
@[simp high] theorem hd4_ChangeR (c : ChangeR) : (c.enc.drop 4).head? = some (I c.node.links) := rfl
@[simp high] theorem gt4_ChangeR (c : ChangeR) : c.enc[4]? = some (I c.node.links) := rfl
@[simp high] theorem hd5_ChangeR (c : ChangeR) : (c.enc.drop 5).head? = some (S c.node.text) := rfl
@[simp high] theorem gt5_ChangeR (c : ChangeR) : c.enc[5]? = some (S c.node.text) := rfl
@[simp high] theorem hd6_ChangeR (c : ChangeR) : (c.enc.drop 6).head? = some (encL EntryR.enc c.node.l) := rfl
@[simp high] theorem gt6_ChangeR (c : ChangeR) : c.enc[6]? = some (encL EntryR.enc c.node.l) := rfl
@[simp high] theorem zset_ChangeR (c : ChangeR) : setMany [AV.val (Value.int IntKind.i64 0), AV.val (Value.bool false), AV.val (Value.int IntKind.i64 0), AV.val (Value.int IntKind.i64 0), AV.val (Value.int IntKind.i64 0), AV.val (Value.string ByteArray.empty), AV.sl true 0 []] 0 c.enc = c.enc := rfl
@[simp high] theorem sub2_5_ChangeR (c : ChangeR) : (c.enc.drop 2).take 5 = c.node.enc := rfl
theorem ins_ChangeR (l : List ChangeR) (i : Nat) (x : ChangeR) : (l.flatMap ChangeR.enc).take (i * 7) ++ x.enc ++ (l.flatMap ChangeR.enc).drop (i * 7) = (insL l i x).flatMap ChangeR.enc := insL_flat (enc := ChangeR.enc) (k := 7) (fun _ => rfl) l i x
@[simp high] theorem sets_VerR {l : List VerR} {i : Nat} (h : i < l.length) (x : VerR) : setMany (l.flatMap VerR.enc) (i * 7) x.enc = (l.set i x).flatMap VerR.enc := set_flat (enc := VerR.enc) (k := 7) (fun _ => rfl) l i x h
@[simp high] theorem puts_VerR (l : List VerR) (i : Nat) (m : List VerR) : putAt (l.flatMap VerR.enc) (i * 7) (m.flatMap VerR.enc) = (putL l i m).flatMap VerR.enc := putAt_flat (enc := VerR.enc) (k := 7) (fun _ => rfl) l i m
@[simp high] theorem hd0_VerR (c : VerR) : (c.enc).head? = some (I c.stamp) := rfl
@[simp high] theorem gt0_VerR (c : VerR) : c.enc[0]? = some (I c.stamp) := rfl
@[simp high] theorem hd1_VerR (c : VerR) : (c.enc.drop 1).head? = some (B c.gone) := rfl
@[simp high] theorem gt1_VerR (c : VerR) : c.enc[1]? = some (B c.gone) := rfl
@[simp high] theorem hd2_VerR (c : VerR) : (c.enc.drop 2).head? = some (I c.node.ino) := rfl
@[simp high] theorem gt2_VerR (c : VerR) : c.enc[2]? = some (I c.node.ino) := rfl
@[simp high] theorem hd3_VerR (c : VerR) : (c.enc.drop 3).head? = some (I c.node.kind) := rfl
@[simp high] theorem gt3_VerR (c : VerR) : c.enc[3]? = some (I c.node.kind) := rfl
@[simp high] theorem hd4_VerR (c : VerR) : (c.enc.drop 4).head? = some (I c.node.links) := rfl
@[simp high] theorem gt4_VerR (c : VerR) : c.enc[4]? = some (I c.node.links) := rfl
@[simp high] theorem hd5_VerR (c : VerR) : (c.enc.drop 5).head? = some (S c.node.text) := rfl
@[simp high] theorem gt5_VerR (c : VerR) : c.enc[5]? = some (S c.node.text) := rfl
@[simp high] theorem hd6_VerR (c : VerR) : (c.enc.drop 6).head? = some (encL EntryR.enc c.node.l) := rfl
@[simp high] theorem gt6_VerR (c : VerR) : c.enc[6]? = some (encL EntryR.enc c.node.l) := rfl
@[simp high] theorem zset_VerR (c : VerR) : setMany [AV.val (Value.int IntKind.i64 0), AV.val (Value.bool false), AV.val (Value.int IntKind.i64 0), AV.val (Value.int IntKind.i64 0), AV.val (Value.int IntKind.i64 0), AV.val (Value.string ByteArray.empty), AV.sl true 0 []] 0 c.enc = c.enc := rfl
@[simp high] theorem sub2_5_VerR (c : VerR) : (c.enc.drop 2).take 5 = c.node.enc := rfl
theorem ins_VerR (l : List VerR) (i : Nat) (x : VerR) : (l.flatMap VerR.enc).take (i * 7) ++ x.enc ++ (l.flatMap VerR.enc).drop (i * 7) = (insL l i x).flatMap VerR.enc := insL_flat (enc := VerR.enc) (k := 7) (fun _ => rfl) l i x
@[simp high] theorem sets_ChainR {l : List ChainR} {i : Nat} (h : i < l.length) (x : ChainR) : setMany (l.flatMap ChainR.enc) (i * 2) x.enc = (l.set i x).flatMap ChainR.enc := set_flat (enc := ChainR.enc) (k := 2) (fun _ => rfl) l i x h
@[simp high] theorem puts_ChainR (l : List ChainR) (i : Nat) (m : List ChainR) : putAt (l.flatMap ChainR.enc) (i * 2) (m.flatMap ChainR.enc) = (putL l i m).flatMap ChainR.enc := putAt_flat (enc := ChainR.enc) (k := 2) (fun _ => rfl) l i m
@[simp high] theorem hd0_ChainR (c : ChainR) : (c.enc).head? = some (I c.ino) := rfl
@[simp high] theorem gt0_ChainR (c : ChainR) : c.enc[0]? = some (I c.ino) := rfl
@[simp high] theorem hd1_ChainR (c : ChainR) : (c.enc.drop 1).head? = some (encL VerR.enc c.l) := rfl
@[simp high] theorem gt1_ChainR (c : ChainR) : c.enc[1]? = some (encL VerR.enc c.l) := rfl
@[simp high] theorem zset_ChainR (c : ChainR) : setMany [AV.val (Value.int IntKind.i64 0), AV.sl true 0 []] 0 c.enc = c.enc := rfl
theorem ins_ChainR (l : List ChainR) (i : Nat) (x : ChainR) : (l.flatMap ChainR.enc).take (i * 2) ++ x.enc ++ (l.flatMap ChainR.enc).drop (i * 2) = (insL l i x).flatMap ChainR.enc := insL_flat (enc := ChainR.enc) (k := 2) (fun _ => rfl) l i x
@[simp high] theorem sets_CountR {l : List CountR} {i : Nat} (h : i < l.length) (x : CountR) : setMany (l.flatMap CountR.enc) (i * 2) x.enc = (l.set i x).flatMap CountR.enc := set_flat (enc := CountR.enc) (k := 2) (fun _ => rfl) l i x h
@[simp high] theorem puts_CountR (l : List CountR) (i : Nat) (m : List CountR) : putAt (l.flatMap CountR.enc) (i * 2) (m.flatMap CountR.enc) = (putL l i m).flatMap CountR.enc := putAt_flat (enc := CountR.enc) (k := 2) (fun _ => rfl) l i m
@[simp high] theorem hd0_CountR (c : CountR) : (c.enc).head? = some (I c.stamp) := rfl
@[simp high] theorem gt0_CountR (c : CountR) : c.enc[0]? = some (I c.stamp) := rfl
@[simp high] theorem hd1_CountR (c : CountR) : (c.enc.drop 1).head? = some (I c.next) := rfl
@[simp high] theorem gt1_CountR (c : CountR) : c.enc[1]? = some (I c.next) := rfl
@[simp high] theorem zset_CountR (c : CountR) : setMany [AV.val (Value.int IntKind.i64 0), AV.val (Value.int IntKind.i64 0)] 0 c.enc = c.enc := rfl
theorem ins_CountR (l : List CountR) (i : Nat) (x : CountR) : (l.flatMap CountR.enc).take (i * 2) ++ x.enc ++ (l.flatMap CountR.enc).drop (i * 2) = (insL l i x).flatMap CountR.enc := insL_flat (enc := CountR.enc) (k := 2) (fun _ => rfl) l i x
@[simp high] theorem sets_StoreR {l : List StoreR} {i : Nat} (h : i < l.length) (x : StoreR) : setMany (l.flatMap StoreR.enc) (i * 3) x.enc = (l.set i x).flatMap StoreR.enc := set_flat (enc := StoreR.enc) (k := 3) (fun _ => rfl) l i x h
@[simp high] theorem puts_StoreR (l : List StoreR) (i : Nat) (m : List StoreR) : putAt (l.flatMap StoreR.enc) (i * 3) (m.flatMap StoreR.enc) = (putL l i m).flatMap StoreR.enc := putAt_flat (enc := StoreR.enc) (k := 3) (fun _ => rfl) l i m
@[simp high] theorem hd0_StoreR (c : StoreR) : (c.enc).head? = some (encL ChainR.enc c.l) := rfl
@[simp high] theorem gt0_StoreR (c : StoreR) : c.enc[0]? = some (encL ChainR.enc c.l) := rfl
@[simp high] theorem hd1_StoreR (c : StoreR) : (c.enc.drop 1).head? = some (encL CountR.enc c.nexts) := rfl
@[simp high] theorem gt1_StoreR (c : StoreR) : c.enc[1]? = some (encL CountR.enc c.nexts) := rfl
@[simp high] theorem hd2_StoreR (c : StoreR) : (c.enc.drop 2).head? = some (I c.stamp) := rfl
@[simp high] theorem gt2_StoreR (c : StoreR) : c.enc[2]? = some (I c.stamp) := rfl
@[simp high] theorem zset_StoreR (c : StoreR) : setMany [AV.sl true 0 [], AV.sl true 0 [], AV.val (Value.int IntKind.i64 0)] 0 c.enc = c.enc := rfl
theorem ins_StoreR (l : List StoreR) (i : Nat) (x : StoreR) : (l.flatMap StoreR.enc).take (i * 3) ++ x.enc ++ (l.flatMap StoreR.enc).drop (i * 3) = (insL l i x).flatMap StoreR.enc := insL_flat (enc := StoreR.enc) (k := 3) (fun _ => rfl) l i x
@[simp high] theorem sets_TxnR {l : List TxnR} {i : Nat} (h : i < l.length) (x : TxnR) : setMany (l.flatMap TxnR.enc) (i * 6) x.enc = (l.set i x).flatMap TxnR.enc := set_flat (enc := TxnR.enc) (k := 6) (fun _ => rfl) l i x h
@[simp high] theorem puts_TxnR (l : List TxnR) (i : Nat) (m : List TxnR) : putAt (l.flatMap TxnR.enc) (i * 6) (m.flatMap TxnR.enc) = (putL l i m).flatMap TxnR.enc := putAt_flat (enc := TxnR.enc) (k := 6) (fun _ => rfl) l i m
@[simp high] theorem hd0_TxnR (c : TxnR) : (c.enc).head? = some (I c.stamp) := rfl
@[simp high] theorem gt0_TxnR (c : TxnR) : c.enc[0]? = some (I c.stamp) := rfl
@[simp high] theorem hd1_TxnR (c : TxnR) : (c.enc.drop 1).head? = some (encL NodeR.enc c.was.l) := rfl
@[simp high] theorem gt1_TxnR (c : TxnR) : c.enc[1]? = some (encL NodeR.enc c.was.l) := rfl
@[simp high] theorem hd2_TxnR (c : TxnR) : (c.enc.drop 2).head? = some (I c.was.next) := rfl
@[simp high] theorem gt2_TxnR (c : TxnR) : c.enc[2]? = some (I c.was.next) := rfl
@[simp high] theorem hd3_TxnR (c : TxnR) : (c.enc.drop 3).head? = some (encL NodeR.enc c.now.l) := rfl
@[simp high] theorem gt3_TxnR (c : TxnR) : c.enc[3]? = some (encL NodeR.enc c.now.l) := rfl
@[simp high] theorem hd4_TxnR (c : TxnR) : (c.enc.drop 4).head? = some (I c.now.next) := rfl
@[simp high] theorem gt4_TxnR (c : TxnR) : c.enc[4]? = some (I c.now.next) := rfl
@[simp high] theorem hd5_TxnR (c : TxnR) : (c.enc.drop 5).head? = some (enc1 I c.looks) := rfl
@[simp high] theorem gt5_TxnR (c : TxnR) : c.enc[5]? = some (enc1 I c.looks) := rfl
@[simp high] theorem zset_TxnR (c : TxnR) : setMany [AV.val (Value.int IntKind.i64 0), AV.sl true 0 [], AV.val (Value.int IntKind.i64 0), AV.sl true 0 [], AV.val (Value.int IntKind.i64 0), AV.sl true 0 []] 0 c.enc = c.enc := rfl
@[simp high] theorem sub1_2_TxnR (c : TxnR) : (c.enc.drop 1).take 2 = c.was.enc := rfl
@[simp high] theorem sub3_2_TxnR (c : TxnR) : (c.enc.drop 3).take 2 = c.now.enc := rfl
theorem ins_TxnR (l : List TxnR) (i : Nat) (x : TxnR) : (l.flatMap TxnR.enc).take (i * 6) ++ x.enc ++ (l.flatMap TxnR.enc).drop (i * 6) = (insL l i x).flatMap TxnR.enc := insL_flat (enc := TxnR.enc) (k := 6) (fun _ => rfl) l i x
@[simp high] theorem sets_DecisionR {l : List DecisionR} {i : Nat} (h : i < l.length) (x : DecisionR) : setMany (l.flatMap DecisionR.enc) (i * 2) x.enc = (l.set i x).flatMap DecisionR.enc := set_flat (enc := DecisionR.enc) (k := 2) (fun _ => rfl) l i x h
@[simp high] theorem puts_DecisionR (l : List DecisionR) (i : Nat) (m : List DecisionR) : putAt (l.flatMap DecisionR.enc) (i * 2) (m.flatMap DecisionR.enc) = (putL l i m).flatMap DecisionR.enc := putAt_flat (enc := DecisionR.enc) (k := 2) (fun _ => rfl) l i m
@[simp high] theorem hd0_DecisionR (c : DecisionR) : (c.enc).head? = some (I c.seq) := rfl
@[simp high] theorem gt0_DecisionR (c : DecisionR) : c.enc[0]? = some (I c.seq) := rfl
@[simp high] theorem hd1_DecisionR (c : DecisionR) : (c.enc.drop 1).head? = some (B c.yes) := rfl
@[simp high] theorem gt1_DecisionR (c : DecisionR) : c.enc[1]? = some (B c.yes) := rfl
@[simp high] theorem zset_DecisionR (c : DecisionR) : setMany [AV.val (Value.int IntKind.i64 0), AV.val (Value.bool false)] 0 c.enc = c.enc := rfl
theorem ins_DecisionR (l : List DecisionR) (i : Nat) (x : DecisionR) : (l.flatMap DecisionR.enc).take (i * 2) ++ x.enc ++ (l.flatMap DecisionR.enc).drop (i * 2) = (insL l i x).flatMap DecisionR.enc := insL_flat (enc := DecisionR.enc) (k := 2) (fun _ => rfl) l i x
@[simp high] theorem sets_RowR {l : List RowR} {i : Nat} (h : i < l.length) (x : RowR) : setMany (l.flatMap RowR.enc) (i * 4) x.enc = (l.set i x).flatMap RowR.enc := set_flat (enc := RowR.enc) (k := 4) (fun _ => rfl) l i x h
@[simp high] theorem puts_RowR (l : List RowR) (i : Nat) (m : List RowR) : putAt (l.flatMap RowR.enc) (i * 4) (m.flatMap RowR.enc) = (putL l i m).flatMap RowR.enc := putAt_flat (enc := RowR.enc) (k := 4) (fun _ => rfl) l i m
@[simp high] theorem hd0_RowR (c : RowR) : (c.enc).head? = some (I c.client) := rfl
@[simp high] theorem gt0_RowR (c : RowR) : c.enc[0]? = some (I c.client) := rfl
@[simp high] theorem hd1_RowR (c : RowR) : (c.enc.drop 1).head? = some (I c.epoch) := rfl
@[simp high] theorem gt1_RowR (c : RowR) : c.enc[1]? = some (I c.epoch) := rfl
@[simp high] theorem hd2_RowR (c : RowR) : (c.enc.drop 2).head? = some (I c.done) := rfl
@[simp high] theorem gt2_RowR (c : RowR) : c.enc[2]? = some (I c.done) := rfl
@[simp high] theorem hd3_RowR (c : RowR) : (c.enc.drop 3).head? = some (encL DecisionR.enc c.l) := rfl
@[simp high] theorem gt3_RowR (c : RowR) : c.enc[3]? = some (encL DecisionR.enc c.l) := rfl
@[simp high] theorem zset_RowR (c : RowR) : setMany [AV.val (Value.int IntKind.i64 0), AV.val (Value.int IntKind.i64 0), AV.val (Value.int IntKind.i64 0), AV.sl true 0 []] 0 c.enc = c.enc := rfl
theorem ins_RowR (l : List RowR) (i : Nat) (x : RowR) : (l.flatMap RowR.enc).take (i * 4) ++ x.enc ++ (l.flatMap RowR.enc).drop (i * 4) = (insL l i x).flatMap RowR.enc := insL_flat (enc := RowR.enc) (k := 4) (fun _ => rfl) l i x
@[simp high] theorem sets_OpenR {l : List OpenR} {i : Nat} (h : i < l.length) (x : OpenR) : setMany (l.flatMap OpenR.enc) (i * 17) x.enc = (l.set i x).flatMap OpenR.enc := set_flat (enc := OpenR.enc) (k := 17) (fun _ => rfl) l i x h
@[simp high] theorem puts_OpenR (l : List OpenR) (i : Nat) (m : List OpenR) : putAt (l.flatMap OpenR.enc) (i * 17) (m.flatMap OpenR.enc) = (putL l i m).flatMap OpenR.enc := putAt_flat (enc := OpenR.enc) (k := 17) (fun _ => rfl) l i m
@[simp high] theorem hd0_OpenR (c : OpenR) : (c.enc).head? = some (I c.client) := rfl
@[simp high] theorem gt0_OpenR (c : OpenR) : c.enc[0]? = some (I c.client) := rfl
@[simp high] theorem hd1_OpenR (c : OpenR) : (c.enc.drop 1).head? = some (I c.epoch) := rfl
@[simp high] theorem gt1_OpenR (c : OpenR) : c.enc[1]? = some (I c.epoch) := rfl
@[simp high] theorem hd2_OpenR (c : OpenR) : (c.enc.drop 2).head? = some (I c.seq) := rfl
@[simp high] theorem gt2_OpenR (c : OpenR) : c.enc[2]? = some (I c.seq) := rfl
@[simp high] theorem hd3_OpenR (c : OpenR) : (c.enc.drop 3).head? = some (I c.n) := rfl
@[simp high] theorem gt3_OpenR (c : OpenR) : c.enc[3]? = some (I c.n) := rfl
@[simp high] theorem hd4_OpenR (c : OpenR) : (c.enc.drop 4).head? = some (I c.t.stamp) := rfl
@[simp high] theorem gt4_OpenR (c : OpenR) : c.enc[4]? = some (I c.t.stamp) := rfl
@[simp high] theorem hd5_OpenR (c : OpenR) : (c.enc.drop 5).head? = some (encL NodeR.enc c.t.was.l) := rfl
@[simp high] theorem gt5_OpenR (c : OpenR) : c.enc[5]? = some (encL NodeR.enc c.t.was.l) := rfl
@[simp high] theorem hd6_OpenR (c : OpenR) : (c.enc.drop 6).head? = some (I c.t.was.next) := rfl
@[simp high] theorem gt6_OpenR (c : OpenR) : c.enc[6]? = some (I c.t.was.next) := rfl
@[simp high] theorem hd7_OpenR (c : OpenR) : (c.enc.drop 7).head? = some (encL NodeR.enc c.t.now.l) := rfl
@[simp high] theorem gt7_OpenR (c : OpenR) : c.enc[7]? = some (encL NodeR.enc c.t.now.l) := rfl
@[simp high] theorem hd8_OpenR (c : OpenR) : (c.enc.drop 8).head? = some (I c.t.now.next) := rfl
@[simp high] theorem gt8_OpenR (c : OpenR) : c.enc[8]? = some (I c.t.now.next) := rfl
@[simp high] theorem hd9_OpenR (c : OpenR) : (c.enc.drop 9).head? = some (enc1 I c.t.looks) := rfl
@[simp high] theorem gt9_OpenR (c : OpenR) : c.enc[9]? = some (enc1 I c.t.looks) := rfl
@[simp high] theorem hd10_OpenR (c : OpenR) : (c.enc.drop 10).head? = some (I c.last.e) := rfl
@[simp high] theorem gt10_OpenR (c : OpenR) : c.enc[10]? = some (I c.last.e) := rfl
@[simp high] theorem hd11_OpenR (c : OpenR) : (c.enc.drop 11).head? = some (I c.last.a) := rfl
@[simp high] theorem gt11_OpenR (c : OpenR) : c.enc[11]? = some (I c.last.a) := rfl
@[simp high] theorem hd12_OpenR (c : OpenR) : (c.enc.drop 12).head? = some (I c.last.b) := rfl
@[simp high] theorem gt12_OpenR (c : OpenR) : c.enc[12]? = some (I c.last.b) := rfl
@[simp high] theorem hd13_OpenR (c : OpenR) : (c.enc.drop 13).head? = some (I c.last.n) := rfl
@[simp high] theorem gt13_OpenR (c : OpenR) : c.enc[13]? = some (I c.last.n) := rfl
@[simp high] theorem hd14_OpenR (c : OpenR) : (c.enc.drop 14).head? = some (S c.last.text) := rfl
@[simp high] theorem gt14_OpenR (c : OpenR) : c.enc[14]? = some (S c.last.text) := rfl
@[simp high] theorem hd15_OpenR (c : OpenR) : (c.enc.drop 15).head? = some (enc1 S c.last.names) := rfl
@[simp high] theorem gt15_OpenR (c : OpenR) : c.enc[15]? = some (enc1 S c.last.names) := rfl
@[simp high] theorem hd16_OpenR (c : OpenR) : (c.enc.drop 16).head? = some (I c.until_) := rfl
@[simp high] theorem gt16_OpenR (c : OpenR) : c.enc[16]? = some (I c.until_) := rfl
@[simp high] theorem sub4_6_OpenR (c : OpenR) : (c.enc.drop 4).take 6 = c.t.enc := rfl
@[simp high] theorem sub5_2_OpenR (c : OpenR) : (c.enc.drop 5).take 2 = c.t.was.enc := rfl
@[simp high] theorem sub7_2_OpenR (c : OpenR) : (c.enc.drop 7).take 2 = c.t.now.enc := rfl
@[simp high] theorem sub10_6_OpenR (c : OpenR) : (c.enc.drop 10).take 6 = c.last.enc := rfl
theorem ins_OpenR (l : List OpenR) (i : Nat) (x : OpenR) : (l.flatMap OpenR.enc).take (i * 17) ++ x.enc ++ (l.flatMap OpenR.enc).drop (i * 17) = (insL l i x).flatMap OpenR.enc := insL_flat (enc := OpenR.enc) (k := 17) (fun _ => rfl) l i x
@[simp high] theorem sets_HostR {l : List HostR} {i : Nat} (h : i < l.length) (x : HostR) : setMany (l.flatMap HostR.enc) (i * 7) x.enc = (l.set i x).flatMap HostR.enc := set_flat (enc := HostR.enc) (k := 7) (fun _ => rfl) l i x h
@[simp high] theorem puts_HostR (l : List HostR) (i : Nat) (m : List HostR) : putAt (l.flatMap HostR.enc) (i * 7) (m.flatMap HostR.enc) = (putL l i m).flatMap HostR.enc := putAt_flat (enc := HostR.enc) (k := 7) (fun _ => rfl) l i m
@[simp high] theorem hd0_HostR (c : HostR) : (c.enc).head? = some (encL ChainR.enc c.s.l) := rfl
@[simp high] theorem gt0_HostR (c : HostR) : c.enc[0]? = some (encL ChainR.enc c.s.l) := rfl
@[simp high] theorem hd1_HostR (c : HostR) : (c.enc.drop 1).head? = some (encL CountR.enc c.s.nexts) := rfl
@[simp high] theorem gt1_HostR (c : HostR) : c.enc[1]? = some (encL CountR.enc c.s.nexts) := rfl
@[simp high] theorem hd2_HostR (c : HostR) : (c.enc.drop 2).head? = some (I c.s.stamp) := rfl
@[simp high] theorem gt2_HostR (c : HostR) : c.enc[2]? = some (I c.s.stamp) := rfl
@[simp high] theorem hd3_HostR (c : HostR) : (c.enc.drop 3).head? = some (encL RowR.enc c.rows) := rfl
@[simp high] theorem gt3_HostR (c : HostR) : c.enc[3]? = some (encL RowR.enc c.rows) := rfl
@[simp high] theorem hd4_HostR (c : HostR) : (c.enc.drop 4).head? = some (encL OpenR.enc c.opens) := rfl
@[simp high] theorem gt4_HostR (c : HostR) : c.enc[4]? = some (encL OpenR.enc c.opens) := rfl
@[simp high] theorem hd5_HostR (c : HostR) : (c.enc.drop 5).head? = some (I c.now) := rfl
@[simp high] theorem gt5_HostR (c : HostR) : c.enc[5]? = some (I c.now) := rfl
@[simp high] theorem hd6_HostR (c : HostR) : (c.enc.drop 6).head? = some (I c.lease) := rfl
@[simp high] theorem gt6_HostR (c : HostR) : c.enc[6]? = some (I c.lease) := rfl
@[simp high] theorem zset_HostR (c : HostR) : setMany [AV.sl true 0 [], AV.sl true 0 [], AV.val (Value.int IntKind.i64 0), AV.sl true 0 [], AV.sl true 0 [], AV.val (Value.int IntKind.i64 0), AV.val (Value.int IntKind.i64 0)] 0 c.enc = c.enc := rfl
@[simp high] theorem sub0_3_HostR (c : HostR) : (c.enc).take 3 = c.s.enc := rfl
theorem ins_HostR (l : List HostR) (i : Nat) (x : HostR) : (l.flatMap HostR.enc).take (i * 7) ++ x.enc ++ (l.flatMap HostR.enc).drop (i * 7) = (insL l i x).flatMap HostR.enc := insL_flat (enc := HostR.enc) (k := 7) (fun _ => rfl) l i x
@[simp high] theorem sets_PutR {l : List PutR} {i : Nat} (h : i < l.length) (x : PutR) : setMany (l.flatMap PutR.enc) (i * 2) x.enc = (l.set i x).flatMap PutR.enc := set_flat (enc := PutR.enc) (k := 2) (fun _ => rfl) l i x h
@[simp high] theorem puts_PutR (l : List PutR) (i : Nat) (m : List PutR) : putAt (l.flatMap PutR.enc) (i * 2) (m.flatMap PutR.enc) = (putL l i m).flatMap PutR.enc := putAt_flat (enc := PutR.enc) (k := 2) (fun _ => rfl) l i m
@[simp high] theorem hd0_PutR (c : PutR) : (c.enc).head? = some (I c.at_) := rfl
@[simp high] theorem gt0_PutR (c : PutR) : c.enc[0]? = some (I c.at_) := rfl
@[simp high] theorem hd1_PutR (c : PutR) : (c.enc.drop 1).head? = some (S c.s) := rfl
@[simp high] theorem gt1_PutR (c : PutR) : c.enc[1]? = some (S c.s) := rfl
@[simp high] theorem zset_PutR (c : PutR) : setMany [AV.val (Value.int IntKind.i64 0), AV.val (Value.string ByteArray.empty)] 0 c.enc = c.enc := rfl
theorem ins_PutR (l : List PutR) (i : Nat) (x : PutR) : (l.flatMap PutR.enc).take (i * 2) ++ x.enc ++ (l.flatMap PutR.enc).drop (i * 2) = (insL l i x).flatMap PutR.enc := insL_flat (enc := PutR.enc) (k := 2) (fun _ => rfl) l i x
@[simp high] theorem sets_DiskR {l : List DiskR} {i : Nat} (h : i < l.length) (x : DiskR) : setMany (l.flatMap DiskR.enc) (i * 3) x.enc = (l.set i x).flatMap DiskR.enc := set_flat (enc := DiskR.enc) (k := 3) (fun _ => rfl) l i x h
@[simp high] theorem puts_DiskR (l : List DiskR) (i : Nat) (m : List DiskR) : putAt (l.flatMap DiskR.enc) (i * 3) (m.flatMap DiskR.enc) = (putL l i m).flatMap DiskR.enc := putAt_flat (enc := DiskR.enc) (k := 3) (fun _ => rfl) l i m
@[simp high] theorem hd0_DiskR (c : DiskR) : (c.enc).head? = some (enc1 S c.kept) := rfl
@[simp high] theorem gt0_DiskR (c : DiskR) : c.enc[0]? = some (enc1 S c.kept) := rfl
@[simp high] theorem hd1_DiskR (c : DiskR) : (c.enc.drop 1).head? = some (encL PutR.enc c.w) := rfl
@[simp high] theorem gt1_DiskR (c : DiskR) : c.enc[1]? = some (encL PutR.enc c.w) := rfl
@[simp high] theorem hd2_DiskR (c : DiskR) : (c.enc.drop 2).head? = some (B c.off) := rfl
@[simp high] theorem gt2_DiskR (c : DiskR) : c.enc[2]? = some (B c.off) := rfl
@[simp high] theorem zset_DiskR (c : DiskR) : setMany [AV.sl true 0 [], AV.sl true 0 [], AV.val (Value.bool false)] 0 c.enc = c.enc := rfl
theorem ins_DiskR (l : List DiskR) (i : Nat) (x : DiskR) : (l.flatMap DiskR.enc).take (i * 3) ++ x.enc ++ (l.flatMap DiskR.enc).drop (i * 3) = (insL l i x).flatMap DiskR.enc := insL_flat (enc := DiskR.enc) (k := 3) (fun _ => rfl) l i x
@[simp high] theorem sets_RingR {l : List RingR} {i : Nat} (h : i < l.length) (x : RingR) : setMany (l.flatMap RingR.enc) (i * 2) x.enc = (l.set i x).flatMap RingR.enc := set_flat (enc := RingR.enc) (k := 2) (fun _ => rfl) l i x h
@[simp high] theorem puts_RingR (l : List RingR) (i : Nat) (m : List RingR) : putAt (l.flatMap RingR.enc) (i * 2) (m.flatMap RingR.enc) = (putL l i m).flatMap RingR.enc := putAt_flat (enc := RingR.enc) (k := 2) (fun _ => rfl) l i m
@[simp high] theorem hd0_RingR (c : RingR) : (c.enc).head? = some (I c.from_) := rfl
@[simp high] theorem gt0_RingR (c : RingR) : c.enc[0]? = some (I c.from_) := rfl
@[simp high] theorem hd1_RingR (c : RingR) : (c.enc.drop 1).head? = some (I c.many) := rfl
@[simp high] theorem gt1_RingR (c : RingR) : c.enc[1]? = some (I c.many) := rfl
@[simp high] theorem zset_RingR (c : RingR) : setMany [AV.val (Value.int IntKind.i64 0), AV.val (Value.int IntKind.i64 0)] 0 c.enc = c.enc := rfl
theorem ins_RingR (l : List RingR) (i : Nat) (x : RingR) : (l.flatMap RingR.enc).take (i * 2) ++ x.enc ++ (l.flatMap RingR.enc).drop (i * 2) = (insL l i x).flatMap RingR.enc := insL_flat (enc := RingR.enc) (k := 2) (fun _ => rfl) l i x
@[simp high] theorem sets_LogR {l : List LogR} {i : Nat} (h : i < l.length) (x : LogR) : setMany (l.flatMap LogR.enc) (i * 4) x.enc = (l.set i x).flatMap LogR.enc := set_flat (enc := LogR.enc) (k := 4) (fun _ => rfl) l i x h
@[simp high] theorem puts_LogR (l : List LogR) (i : Nat) (m : List LogR) : putAt (l.flatMap LogR.enc) (i * 4) (m.flatMap LogR.enc) = (putL l i m).flatMap LogR.enc := putAt_flat (enc := LogR.enc) (k := 4) (fun _ => rfl) l i m
@[simp high] theorem hd0_LogR (c : LogR) : (c.enc).head? = some (I c.at_) := rfl
@[simp high] theorem gt0_LogR (c : LogR) : c.enc[0]? = some (I c.at_) := rfl
@[simp high] theorem hd1_LogR (c : LogR) : (c.enc.drop 1).head? = some (I c.used) := rfl
@[simp high] theorem gt1_LogR (c : LogR) : c.enc[1]? = some (I c.used) := rfl
@[simp high] theorem hd2_LogR (c : LogR) : (c.enc.drop 2).head? = some (U c.first) := rfl
@[simp high] theorem gt2_LogR (c : LogR) : c.enc[2]? = some (U c.first) := rfl
@[simp high] theorem hd3_LogR (c : LogR) : (c.enc.drop 3).head? = some (I c.many) := rfl
@[simp high] theorem gt3_LogR (c : LogR) : c.enc[3]? = some (I c.many) := rfl
@[simp high] theorem zset_LogR (c : LogR) : setMany [AV.val (Value.int IntKind.i64 0), AV.val (Value.int IntKind.i64 0), AV.val (Value.int IntKind.u64 0), AV.val (Value.int IntKind.i64 0)] 0 c.enc = c.enc := rfl
theorem ins_LogR (l : List LogR) (i : Nat) (x : LogR) : (l.flatMap LogR.enc).take (i * 4) ++ x.enc ++ (l.flatMap LogR.enc).drop (i * 4) = (insL l i x).flatMap LogR.enc := insL_flat (enc := LogR.enc) (k := 4) (fun _ => rfl) l i x
@[simp high] theorem sets_KeepR {l : List KeepR} {i : Nat} (h : i < l.length) (x : KeepR) : setMany (l.flatMap KeepR.enc) (i * 14) x.enc = (l.set i x).flatMap KeepR.enc := set_flat (enc := KeepR.enc) (k := 14) (fun _ => rfl) l i x h
@[simp high] theorem puts_KeepR (l : List KeepR) (i : Nat) (m : List KeepR) : putAt (l.flatMap KeepR.enc) (i * 14) (m.flatMap KeepR.enc) = (putL l i m).flatMap KeepR.enc := putAt_flat (enc := KeepR.enc) (k := 14) (fun _ => rfl) l i m
@[simp high] theorem hd0_KeepR (c : KeepR) : (c.enc).head? = some (enc1 S c.d.kept) := rfl
@[simp high] theorem gt0_KeepR (c : KeepR) : c.enc[0]? = some (enc1 S c.d.kept) := rfl
@[simp high] theorem hd1_KeepR (c : KeepR) : (c.enc.drop 1).head? = some (encL PutR.enc c.d.w) := rfl
@[simp high] theorem gt1_KeepR (c : KeepR) : c.enc[1]? = some (encL PutR.enc c.d.w) := rfl
@[simp high] theorem hd2_KeepR (c : KeepR) : (c.enc.drop 2).head? = some (B c.d.off) := rfl
@[simp high] theorem gt2_KeepR (c : KeepR) : c.enc[2]? = some (B c.d.off) := rfl
@[simp high] theorem hd3_KeepR (c : KeepR) : (c.enc.drop 3).head? = some (I c.l.at_) := rfl
@[simp high] theorem gt3_KeepR (c : KeepR) : c.enc[3]? = some (I c.l.at_) := rfl
@[simp high] theorem hd4_KeepR (c : KeepR) : (c.enc.drop 4).head? = some (I c.l.used) := rfl
@[simp high] theorem gt4_KeepR (c : KeepR) : c.enc[4]? = some (I c.l.used) := rfl
@[simp high] theorem hd5_KeepR (c : KeepR) : (c.enc.drop 5).head? = some (U c.l.first) := rfl
@[simp high] theorem gt5_KeepR (c : KeepR) : c.enc[5]? = some (U c.l.first) := rfl
@[simp high] theorem hd6_KeepR (c : KeepR) : (c.enc.drop 6).head? = some (I c.l.many) := rfl
@[simp high] theorem gt6_KeepR (c : KeepR) : c.enc[6]? = some (I c.l.many) := rfl
@[simp high] theorem hd7_KeepR (c : KeepR) : (c.enc.drop 7).head? = some (encL ChainR.enc c.h.s.l) := rfl
@[simp high] theorem gt7_KeepR (c : KeepR) : c.enc[7]? = some (encL ChainR.enc c.h.s.l) := rfl
@[simp high] theorem hd8_KeepR (c : KeepR) : (c.enc.drop 8).head? = some (encL CountR.enc c.h.s.nexts) := rfl
@[simp high] theorem gt8_KeepR (c : KeepR) : c.enc[8]? = some (encL CountR.enc c.h.s.nexts) := rfl
@[simp high] theorem hd9_KeepR (c : KeepR) : (c.enc.drop 9).head? = some (I c.h.s.stamp) := rfl
@[simp high] theorem gt9_KeepR (c : KeepR) : c.enc[9]? = some (I c.h.s.stamp) := rfl
@[simp high] theorem hd10_KeepR (c : KeepR) : (c.enc.drop 10).head? = some (encL RowR.enc c.h.rows) := rfl
@[simp high] theorem gt10_KeepR (c : KeepR) : c.enc[10]? = some (encL RowR.enc c.h.rows) := rfl
@[simp high] theorem hd11_KeepR (c : KeepR) : (c.enc.drop 11).head? = some (encL OpenR.enc c.h.opens) := rfl
@[simp high] theorem gt11_KeepR (c : KeepR) : c.enc[11]? = some (encL OpenR.enc c.h.opens) := rfl
@[simp high] theorem hd12_KeepR (c : KeepR) : (c.enc.drop 12).head? = some (I c.h.now) := rfl
@[simp high] theorem gt12_KeepR (c : KeepR) : c.enc[12]? = some (I c.h.now) := rfl
@[simp high] theorem hd13_KeepR (c : KeepR) : (c.enc.drop 13).head? = some (I c.h.lease) := rfl
@[simp high] theorem gt13_KeepR (c : KeepR) : c.enc[13]? = some (I c.h.lease) := rfl
@[simp high] theorem zset_KeepR (c : KeepR) : setMany [AV.sl true 0 [], AV.sl true 0 [], AV.val (Value.bool false), AV.val (Value.int IntKind.i64 0), AV.val (Value.int IntKind.i64 0), AV.val (Value.int IntKind.u64 0), AV.val (Value.int IntKind.i64 0), AV.sl true 0 [], AV.sl true 0 [], AV.val (Value.int IntKind.i64 0), AV.sl true 0 [], AV.sl true 0 [], AV.val (Value.int IntKind.i64 0), AV.val (Value.int IntKind.i64 0)] 0 c.enc = c.enc := rfl
@[simp high] theorem sub0_3_KeepR (c : KeepR) : (c.enc).take 3 = c.d.enc := rfl
@[simp high] theorem sub3_4_KeepR (c : KeepR) : (c.enc.drop 3).take 4 = c.l.enc := rfl
@[simp high] theorem sub7_7_KeepR (c : KeepR) : (c.enc.drop 7).take 7 = c.h.enc := rfl
@[simp high] theorem sub7_3_KeepR (c : KeepR) : (c.enc.drop 7).take 3 = c.h.s.enc := rfl
theorem ins_KeepR (l : List KeepR) (i : Nat) (x : KeepR) : (l.flatMap KeepR.enc).take (i * 14) ++ x.enc ++ (l.flatMap KeepR.enc).drop (i * 14) = (insL l i x).flatMap KeepR.enc := insL_flat (enc := KeepR.enc) (k := 14) (fun _ => rfl) l i x
@[simp high] theorem sets_NetR {l : List NetR} {i : Nat} (h : i < l.length) (x : NetR) : setMany (l.flatMap NetR.enc) (i * 2) x.enc = (l.set i x).flatMap NetR.enc := set_flat (enc := NetR.enc) (k := 2) (fun _ => rfl) l i x h
@[simp high] theorem puts_NetR (l : List NetR) (i : Nat) (m : List NetR) : putAt (l.flatMap NetR.enc) (i * 2) (m.flatMap NetR.enc) = (putL l i m).flatMap NetR.enc := putAt_flat (enc := NetR.enc) (k := 2) (fun _ => rfl) l i m
@[simp high] theorem hd0_NetR (c : NetR) : (c.enc).head? = some (enc1 S c.up) := rfl
@[simp high] theorem gt0_NetR (c : NetR) : c.enc[0]? = some (enc1 S c.up) := rfl
@[simp high] theorem hd1_NetR (c : NetR) : (c.enc.drop 1).head? = some (enc1 S c.down) := rfl
@[simp high] theorem gt1_NetR (c : NetR) : c.enc[1]? = some (enc1 S c.down) := rfl
@[simp high] theorem zset_NetR (c : NetR) : setMany [AV.sl true 0 [], AV.sl true 0 []] 0 c.enc = c.enc := rfl
theorem ins_NetR (l : List NetR) (i : Nat) (x : NetR) : (l.flatMap NetR.enc).take (i * 2) ++ x.enc ++ (l.flatMap NetR.enc).drop (i * 2) = (insL l i x).flatMap NetR.enc := insL_flat (enc := NetR.enc) (k := 2) (fun _ => rfl) l i x
@[simp high] theorem sets_WorldR {l : List WorldR} {i : Nat} (h : i < l.length) (x : WorldR) : setMany (l.flatMap WorldR.enc) (i * 18) x.enc = (l.set i x).flatMap WorldR.enc := set_flat (enc := WorldR.enc) (k := 18) (fun _ => rfl) l i x h
@[simp high] theorem puts_WorldR (l : List WorldR) (i : Nat) (m : List WorldR) : putAt (l.flatMap WorldR.enc) (i * 18) (m.flatMap WorldR.enc) = (putL l i m).flatMap WorldR.enc := putAt_flat (enc := WorldR.enc) (k := 18) (fun _ => rfl) l i m
@[simp high] theorem hd0_WorldR (c : WorldR) : (c.enc).head? = some (enc1 S c.k.d.kept) := rfl
@[simp high] theorem gt0_WorldR (c : WorldR) : c.enc[0]? = some (enc1 S c.k.d.kept) := rfl
@[simp high] theorem hd1_WorldR (c : WorldR) : (c.enc.drop 1).head? = some (encL PutR.enc c.k.d.w) := rfl
@[simp high] theorem gt1_WorldR (c : WorldR) : c.enc[1]? = some (encL PutR.enc c.k.d.w) := rfl
@[simp high] theorem hd2_WorldR (c : WorldR) : (c.enc.drop 2).head? = some (B c.k.d.off) := rfl
@[simp high] theorem gt2_WorldR (c : WorldR) : c.enc[2]? = some (B c.k.d.off) := rfl
@[simp high] theorem hd3_WorldR (c : WorldR) : (c.enc.drop 3).head? = some (I c.k.l.at_) := rfl
@[simp high] theorem gt3_WorldR (c : WorldR) : c.enc[3]? = some (I c.k.l.at_) := rfl
@[simp high] theorem hd4_WorldR (c : WorldR) : (c.enc.drop 4).head? = some (I c.k.l.used) := rfl
@[simp high] theorem gt4_WorldR (c : WorldR) : c.enc[4]? = some (I c.k.l.used) := rfl
@[simp high] theorem hd5_WorldR (c : WorldR) : (c.enc.drop 5).head? = some (U c.k.l.first) := rfl
@[simp high] theorem gt5_WorldR (c : WorldR) : c.enc[5]? = some (U c.k.l.first) := rfl
@[simp high] theorem hd6_WorldR (c : WorldR) : (c.enc.drop 6).head? = some (I c.k.l.many) := rfl
@[simp high] theorem gt6_WorldR (c : WorldR) : c.enc[6]? = some (I c.k.l.many) := rfl
@[simp high] theorem hd7_WorldR (c : WorldR) : (c.enc.drop 7).head? = some (encL ChainR.enc c.k.h.s.l) := rfl
@[simp high] theorem gt7_WorldR (c : WorldR) : c.enc[7]? = some (encL ChainR.enc c.k.h.s.l) := rfl
@[simp high] theorem hd8_WorldR (c : WorldR) : (c.enc.drop 8).head? = some (encL CountR.enc c.k.h.s.nexts) := rfl
@[simp high] theorem gt8_WorldR (c : WorldR) : c.enc[8]? = some (encL CountR.enc c.k.h.s.nexts) := rfl
@[simp high] theorem hd9_WorldR (c : WorldR) : (c.enc.drop 9).head? = some (I c.k.h.s.stamp) := rfl
@[simp high] theorem gt9_WorldR (c : WorldR) : c.enc[9]? = some (I c.k.h.s.stamp) := rfl
@[simp high] theorem hd10_WorldR (c : WorldR) : (c.enc.drop 10).head? = some (encL RowR.enc c.k.h.rows) := rfl
@[simp high] theorem gt10_WorldR (c : WorldR) : c.enc[10]? = some (encL RowR.enc c.k.h.rows) := rfl
@[simp high] theorem hd11_WorldR (c : WorldR) : (c.enc.drop 11).head? = some (encL OpenR.enc c.k.h.opens) := rfl
@[simp high] theorem gt11_WorldR (c : WorldR) : c.enc[11]? = some (encL OpenR.enc c.k.h.opens) := rfl
@[simp high] theorem hd12_WorldR (c : WorldR) : (c.enc.drop 12).head? = some (I c.k.h.now) := rfl
@[simp high] theorem gt12_WorldR (c : WorldR) : c.enc[12]? = some (I c.k.h.now) := rfl
@[simp high] theorem hd13_WorldR (c : WorldR) : (c.enc.drop 13).head? = some (I c.k.h.lease) := rfl
@[simp high] theorem gt13_WorldR (c : WorldR) : c.enc[13]? = some (I c.k.h.lease) := rfl
@[simp high] theorem hd14_WorldR (c : WorldR) : (c.enc.drop 14).head? = some (encL ClientR.enc c.l) := rfl
@[simp high] theorem gt14_WorldR (c : WorldR) : c.enc[14]? = some (encL ClientR.enc c.l) := rfl
@[simp high] theorem hd15_WorldR (c : WorldR) : (c.enc.drop 15).head? = some (enc1 S c.n.up) := rfl
@[simp high] theorem gt15_WorldR (c : WorldR) : c.enc[15]? = some (enc1 S c.n.up) := rfl
@[simp high] theorem hd16_WorldR (c : WorldR) : (c.enc.drop 16).head? = some (enc1 S c.n.down) := rfl
@[simp high] theorem gt16_WorldR (c : WorldR) : c.enc[16]? = some (enc1 S c.n.down) := rfl
@[simp high] theorem hd17_WorldR (c : WorldR) : (c.enc.drop 17).head? = some (I c.lease) := rfl
@[simp high] theorem gt17_WorldR (c : WorldR) : c.enc[17]? = some (I c.lease) := rfl
@[simp high] theorem sub0_14_WorldR (c : WorldR) : (c.enc).take 14 = c.k.enc := rfl
@[simp high] theorem sub0_3_WorldR (c : WorldR) : (c.enc).take 3 = c.k.d.enc := rfl
@[simp high] theorem sub3_4_WorldR (c : WorldR) : (c.enc.drop 3).take 4 = c.k.l.enc := rfl
@[simp high] theorem sub7_7_WorldR (c : WorldR) : (c.enc.drop 7).take 7 = c.k.h.enc := rfl
@[simp high] theorem sub7_3_WorldR (c : WorldR) : (c.enc.drop 7).take 3 = c.k.h.s.enc := rfl
@[simp high] theorem sub15_2_WorldR (c : WorldR) : (c.enc.drop 15).take 2 = c.n.enc := rfl
theorem ins_WorldR (l : List WorldR) (i : Nat) (x : WorldR) : (l.flatMap WorldR.enc).take (i * 18) ++ x.enc ++ (l.flatMap WorldR.enc).drop (i * 18) = (insL l i x).flatMap WorldR.enc := insL_flat (enc := WorldR.enc) (k := 18) (fun _ => rfl) l i x
@[simp high] theorem sets_StepR {l : List StepR} {i : Nat} (h : i < l.length) (x : StepR) : setMany (l.flatMap StepR.enc) (i * 5) x.enc = (l.set i x).flatMap StepR.enc := set_flat (enc := StepR.enc) (k := 5) (fun _ => rfl) l i x h
@[simp high] theorem puts_StepR (l : List StepR) (i : Nat) (m : List StepR) : putAt (l.flatMap StepR.enc) (i * 5) (m.flatMap StepR.enc) = (putL l i m).flatMap StepR.enc := putAt_flat (enc := StepR.enc) (k := 5) (fun _ => rfl) l i m
@[simp high] theorem hd0_StepR (c : StepR) : (c.enc).head? = some (I c.kind) := rfl
@[simp high] theorem gt0_StepR (c : StepR) : c.enc[0]? = some (I c.kind) := rfl
@[simp high] theorem hd1_StepR (c : StepR) : (c.enc.drop 1).head? = some (I c.i) := rfl
@[simp high] theorem gt1_StepR (c : StepR) : c.enc[1]? = some (I c.i) := rfl
@[simp high] theorem hd2_StepR (c : StepR) : (c.enc.drop 2).head? = some (I c.j) := rfl
@[simp high] theorem gt2_StepR (c : StepR) : c.enc[2]? = some (I c.j) := rfl
@[simp high] theorem hd3_StepR (c : StepR) : (c.enc.drop 3).head? = some (enc1 B c.keep) := rfl
@[simp high] theorem gt3_StepR (c : StepR) : c.enc[3]? = some (enc1 B c.keep) := rfl
@[simp high] theorem hd4_StepR (c : StepR) : (c.enc.drop 4).head? = some (Y8 c.by_) := rfl
@[simp high] theorem gt4_StepR (c : StepR) : c.enc[4]? = some (Y8 c.by_) := rfl
@[simp high] theorem zset_StepR (c : StepR) : setMany [AV.val (Value.int IntKind.i64 0), AV.val (Value.int IntKind.i64 0), AV.val (Value.int IntKind.i64 0), AV.sl true 0 [], AV.val (Value.int IntKind.u8 0)] 0 c.enc = c.enc := rfl
theorem ins_StepR (l : List StepR) (i : Nat) (x : StepR) : (l.flatMap StepR.enc).take (i * 5) ++ x.enc ++ (l.flatMap StepR.enc).drop (i * 5) = (insL l i x).flatMap StepR.enc := insL_flat (enc := StepR.enc) (k := 5) (fun _ => rfl) l i x
end Go.Cx

set_option linter.unusedVariables false
set_option linter.unusedSimpArgs false
namespace Go.Cx
def MsgR.wf (c : MsgR) : Prop := inI c.kind ∧ inI c.client ∧ inI c.epoch ∧ inI c.seq ∧ inI c.n ∧ inI c.stamp ∧ c.c.wf

structure TreeTurnsInR where
  f : FSR
  n : NodeR
  ino : Int
  s : ByteArray
def TreeTurnsInR.enc (c : TreeTurnsInR) : List AV := c.f.enc ++ c.n.enc ++ [I c.ino, S c.s]
@[simp] theorem TreeTurnsInR.neat (c : TreeTurnsInR) : c.enc.all neat = true := by simp [TreeTurnsInR.enc]
@[simp] theorem TreeTurnsInR.one (c : TreeTurnsInR) : c.enc.all isOne = true := rfl
@[simp high] theorem lenc_TreeTurnsInR (x : TreeTurnsInR) : x.enc.length = 9 := rfl
@[simp high] theorem takec_TreeTurnsInR (x : TreeTurnsInR) : x.enc.take 9 = x.enc := List.take_of_length_le (Nat.le_refl _)
@[simp high] theorem hd0_TreeTurnsInR (c : TreeTurnsInR) : (c.enc).head? = some (encL NodeR.enc c.f.l) := rfl
@[simp high] theorem gt0_TreeTurnsInR (c : TreeTurnsInR) : c.enc[0]? = some (encL NodeR.enc c.f.l) := rfl
@[simp high] theorem hd1_TreeTurnsInR (c : TreeTurnsInR) : (c.enc.drop 1).head? = some (I c.f.next) := rfl
@[simp high] theorem gt1_TreeTurnsInR (c : TreeTurnsInR) : c.enc[1]? = some (I c.f.next) := rfl
@[simp high] theorem hd2_TreeTurnsInR (c : TreeTurnsInR) : (c.enc.drop 2).head? = some (I c.n.ino) := rfl
@[simp high] theorem gt2_TreeTurnsInR (c : TreeTurnsInR) : c.enc[2]? = some (I c.n.ino) := rfl
@[simp high] theorem hd3_TreeTurnsInR (c : TreeTurnsInR) : (c.enc.drop 3).head? = some (I c.n.kind) := rfl
@[simp high] theorem gt3_TreeTurnsInR (c : TreeTurnsInR) : c.enc[3]? = some (I c.n.kind) := rfl
@[simp high] theorem hd4_TreeTurnsInR (c : TreeTurnsInR) : (c.enc.drop 4).head? = some (I c.n.links) := rfl
@[simp high] theorem gt4_TreeTurnsInR (c : TreeTurnsInR) : c.enc[4]? = some (I c.n.links) := rfl
@[simp high] theorem hd5_TreeTurnsInR (c : TreeTurnsInR) : (c.enc.drop 5).head? = some (S c.n.text) := rfl
@[simp high] theorem gt5_TreeTurnsInR (c : TreeTurnsInR) : c.enc[5]? = some (S c.n.text) := rfl
@[simp high] theorem hd6_TreeTurnsInR (c : TreeTurnsInR) : (c.enc.drop 6).head? = some (encL EntryR.enc c.n.l) := rfl
@[simp high] theorem gt6_TreeTurnsInR (c : TreeTurnsInR) : c.enc[6]? = some (encL EntryR.enc c.n.l) := rfl
@[simp high] theorem hd7_TreeTurnsInR (c : TreeTurnsInR) : (c.enc.drop 7).head? = some (I c.ino) := rfl
@[simp high] theorem gt7_TreeTurnsInR (c : TreeTurnsInR) : c.enc[7]? = some (I c.ino) := rfl
@[simp high] theorem hd8_TreeTurnsInR (c : TreeTurnsInR) : (c.enc.drop 8).head? = some (S c.s) := rfl
@[simp high] theorem gt8_TreeTurnsInR (c : TreeTurnsInR) : c.enc[8]? = some (S c.s) := rfl
@[simp high] theorem sub0_2_TreeTurnsInR (c : TreeTurnsInR) : (c.enc).take 2 = c.f.enc := rfl
@[simp high] theorem sub2_5_TreeTurnsInR (c : TreeTurnsInR) : (c.enc.drop 2).take 5 = c.n.enc := rfl
def TreeTurnsInR.wf (c : TreeTurnsInR) : Prop := c.f.wf ∧ c.n.wf ∧ inI c.ino ∧ c.s.size ≤ maxLen

structure TreeBelowInR where
  f : FSR
  a : Int
  b : Int
  c : Int
def TreeBelowInR.enc (c : TreeBelowInR) : List AV := c.f.enc ++ [I c.a, I c.b, I c.c]
@[simp] theorem TreeBelowInR.neat (c : TreeBelowInR) : c.enc.all neat = true := by simp [TreeBelowInR.enc]
@[simp] theorem TreeBelowInR.one (c : TreeBelowInR) : c.enc.all isOne = true := rfl
@[simp high] theorem lenc_TreeBelowInR (x : TreeBelowInR) : x.enc.length = 5 := rfl
@[simp high] theorem takec_TreeBelowInR (x : TreeBelowInR) : x.enc.take 5 = x.enc := List.take_of_length_le (Nat.le_refl _)
@[simp high] theorem hd0_TreeBelowInR (c : TreeBelowInR) : (c.enc).head? = some (encL NodeR.enc c.f.l) := rfl
@[simp high] theorem gt0_TreeBelowInR (c : TreeBelowInR) : c.enc[0]? = some (encL NodeR.enc c.f.l) := rfl
@[simp high] theorem hd1_TreeBelowInR (c : TreeBelowInR) : (c.enc.drop 1).head? = some (I c.f.next) := rfl
@[simp high] theorem gt1_TreeBelowInR (c : TreeBelowInR) : c.enc[1]? = some (I c.f.next) := rfl
@[simp high] theorem hd2_TreeBelowInR (c : TreeBelowInR) : (c.enc.drop 2).head? = some (I c.a) := rfl
@[simp high] theorem gt2_TreeBelowInR (c : TreeBelowInR) : c.enc[2]? = some (I c.a) := rfl
@[simp high] theorem hd3_TreeBelowInR (c : TreeBelowInR) : (c.enc.drop 3).head? = some (I c.b) := rfl
@[simp high] theorem gt3_TreeBelowInR (c : TreeBelowInR) : c.enc[3]? = some (I c.b) := rfl
@[simp high] theorem hd4_TreeBelowInR (c : TreeBelowInR) : (c.enc.drop 4).head? = some (I c.c) := rfl
@[simp high] theorem gt4_TreeBelowInR (c : TreeBelowInR) : c.enc[4]? = some (I c.c) := rfl
@[simp high] theorem sub0_2_TreeBelowInR (c : TreeBelowInR) : (c.enc).take 2 = c.f.enc := rfl
def TreeBelowInR.wf (c : TreeBelowInR) : Prop := c.f.wf ∧ inI c.a ∧ inI c.b ∧ inI c.c

structure OpsPlaysInR where
  f : FSR
  l : List CallR
  g : FSR
  next : Int
def OpsPlaysInR.enc (c : OpsPlaysInR) : List AV := c.f.enc ++ [encL CallR.enc c.l] ++ c.g.enc ++ [I c.next]
@[simp] theorem OpsPlaysInR.neat (c : OpsPlaysInR) : c.enc.all neat = true := by simp [OpsPlaysInR.enc]
@[simp] theorem OpsPlaysInR.one (c : OpsPlaysInR) : c.enc.all isOne = true := rfl
@[simp high] theorem lenc_OpsPlaysInR (x : OpsPlaysInR) : x.enc.length = 6 := rfl
@[simp high] theorem takec_OpsPlaysInR (x : OpsPlaysInR) : x.enc.take 6 = x.enc := List.take_of_length_le (Nat.le_refl _)
@[simp high] theorem hd0_OpsPlaysInR (c : OpsPlaysInR) : (c.enc).head? = some (encL NodeR.enc c.f.l) := rfl
@[simp high] theorem gt0_OpsPlaysInR (c : OpsPlaysInR) : c.enc[0]? = some (encL NodeR.enc c.f.l) := rfl
@[simp high] theorem hd1_OpsPlaysInR (c : OpsPlaysInR) : (c.enc.drop 1).head? = some (I c.f.next) := rfl
@[simp high] theorem gt1_OpsPlaysInR (c : OpsPlaysInR) : c.enc[1]? = some (I c.f.next) := rfl
@[simp high] theorem hd2_OpsPlaysInR (c : OpsPlaysInR) : (c.enc.drop 2).head? = some (encL CallR.enc c.l) := rfl
@[simp high] theorem gt2_OpsPlaysInR (c : OpsPlaysInR) : c.enc[2]? = some (encL CallR.enc c.l) := rfl
@[simp high] theorem hd3_OpsPlaysInR (c : OpsPlaysInR) : (c.enc.drop 3).head? = some (encL NodeR.enc c.g.l) := rfl
@[simp high] theorem gt3_OpsPlaysInR (c : OpsPlaysInR) : c.enc[3]? = some (encL NodeR.enc c.g.l) := rfl
@[simp high] theorem hd4_OpsPlaysInR (c : OpsPlaysInR) : (c.enc.drop 4).head? = some (I c.g.next) := rfl
@[simp high] theorem gt4_OpsPlaysInR (c : OpsPlaysInR) : c.enc[4]? = some (I c.g.next) := rfl
@[simp high] theorem hd5_OpsPlaysInR (c : OpsPlaysInR) : (c.enc.drop 5).head? = some (I c.next) := rfl
@[simp high] theorem gt5_OpsPlaysInR (c : OpsPlaysInR) : c.enc[5]? = some (I c.next) := rfl
@[simp high] theorem sub0_2_OpsPlaysInR (c : OpsPlaysInR) : (c.enc).take 2 = c.f.enc := rfl
@[simp high] theorem sub3_2_OpsPlaysInR (c : OpsPlaysInR) : (c.enc.drop 3).take 2 = c.g.enc := rfl
def OpsPlaysInR.wf (c : OpsPlaysInR) : Prop := c.f.wf ∧ (∀ x ∈ c.l, x.wf) ∧ c.g.wf ∧ inI c.next

structure OpsReadsInR where
  f : FSR
  dir : Int
  s : ByteArray
  at_ : Int
  t : ByteArray
def OpsReadsInR.enc (c : OpsReadsInR) : List AV := c.f.enc ++ [I c.dir, S c.s, I c.at_, S c.t]
@[simp] theorem OpsReadsInR.neat (c : OpsReadsInR) : c.enc.all neat = true := by simp [OpsReadsInR.enc]
@[simp] theorem OpsReadsInR.one (c : OpsReadsInR) : c.enc.all isOne = true := rfl
@[simp high] theorem lenc_OpsReadsInR (x : OpsReadsInR) : x.enc.length = 6 := rfl
@[simp high] theorem takec_OpsReadsInR (x : OpsReadsInR) : x.enc.take 6 = x.enc := List.take_of_length_le (Nat.le_refl _)
@[simp high] theorem hd0_OpsReadsInR (c : OpsReadsInR) : (c.enc).head? = some (encL NodeR.enc c.f.l) := rfl
@[simp high] theorem gt0_OpsReadsInR (c : OpsReadsInR) : c.enc[0]? = some (encL NodeR.enc c.f.l) := rfl
@[simp high] theorem hd1_OpsReadsInR (c : OpsReadsInR) : (c.enc.drop 1).head? = some (I c.f.next) := rfl
@[simp high] theorem gt1_OpsReadsInR (c : OpsReadsInR) : c.enc[1]? = some (I c.f.next) := rfl
@[simp high] theorem hd2_OpsReadsInR (c : OpsReadsInR) : (c.enc.drop 2).head? = some (I c.dir) := rfl
@[simp high] theorem gt2_OpsReadsInR (c : OpsReadsInR) : c.enc[2]? = some (I c.dir) := rfl
@[simp high] theorem hd3_OpsReadsInR (c : OpsReadsInR) : (c.enc.drop 3).head? = some (S c.s) := rfl
@[simp high] theorem gt3_OpsReadsInR (c : OpsReadsInR) : c.enc[3]? = some (S c.s) := rfl
@[simp high] theorem hd4_OpsReadsInR (c : OpsReadsInR) : (c.enc.drop 4).head? = some (I c.at_) := rfl
@[simp high] theorem gt4_OpsReadsInR (c : OpsReadsInR) : c.enc[4]? = some (I c.at_) := rfl
@[simp high] theorem hd5_OpsReadsInR (c : OpsReadsInR) : (c.enc.drop 5).head? = some (S c.t) := rfl
@[simp high] theorem gt5_OpsReadsInR (c : OpsReadsInR) : c.enc[5]? = some (S c.t) := rfl
@[simp high] theorem sub0_2_OpsReadsInR (c : OpsReadsInR) : (c.enc).take 2 = c.f.enc := rfl
def OpsReadsInR.wf (c : OpsReadsInR) : Prop := c.f.wf ∧ inI c.dir ∧ c.s.size ≤ maxLen ∧ inI c.at_ ∧ c.t.size ≤ maxLen

structure OpsHangsInR where
  f : FSR
  c : CallR
  dir : Int
  s : ByteArray
def OpsHangsInR.enc (c : OpsHangsInR) : List AV := c.f.enc ++ c.c.enc ++ [I c.dir, S c.s]
@[simp] theorem OpsHangsInR.neat (c : OpsHangsInR) : c.enc.all neat = true := by simp [OpsHangsInR.enc]
@[simp] theorem OpsHangsInR.one (c : OpsHangsInR) : c.enc.all isOne = true := rfl
@[simp high] theorem lenc_OpsHangsInR (x : OpsHangsInR) : x.enc.length = 12 := rfl
@[simp high] theorem takec_OpsHangsInR (x : OpsHangsInR) : x.enc.take 12 = x.enc := List.take_of_length_le (Nat.le_refl _)
@[simp high] theorem hd0_OpsHangsInR (c : OpsHangsInR) : (c.enc).head? = some (encL NodeR.enc c.f.l) := rfl
@[simp high] theorem gt0_OpsHangsInR (c : OpsHangsInR) : c.enc[0]? = some (encL NodeR.enc c.f.l) := rfl
@[simp high] theorem hd1_OpsHangsInR (c : OpsHangsInR) : (c.enc.drop 1).head? = some (I c.f.next) := rfl
@[simp high] theorem gt1_OpsHangsInR (c : OpsHangsInR) : c.enc[1]? = some (I c.f.next) := rfl
@[simp high] theorem hd2_OpsHangsInR (c : OpsHangsInR) : (c.enc.drop 2).head? = some (I c.c.kind) := rfl
@[simp high] theorem gt2_OpsHangsInR (c : OpsHangsInR) : c.enc[2]? = some (I c.c.kind) := rfl
@[simp high] theorem hd3_OpsHangsInR (c : OpsHangsInR) : (c.enc.drop 3).head? = some (I c.c.ino) := rfl
@[simp high] theorem gt3_OpsHangsInR (c : OpsHangsInR) : c.enc[3]? = some (I c.c.ino) := rfl
@[simp high] theorem hd4_OpsHangsInR (c : OpsHangsInR) : (c.enc.drop 4).head? = some (I c.c.to_) := rfl
@[simp high] theorem gt4_OpsHangsInR (c : OpsHangsInR) : c.enc[4]? = some (I c.c.to_) := rfl
@[simp high] theorem hd5_OpsHangsInR (c : OpsHangsInR) : (c.enc.drop 5).head? = some (I c.c.at_) := rfl
@[simp high] theorem gt5_OpsHangsInR (c : OpsHangsInR) : c.enc[5]? = some (I c.c.at_) := rfl
@[simp high] theorem hd6_OpsHangsInR (c : OpsHangsInR) : (c.enc.drop 6).head? = some (I c.c.many) := rfl
@[simp high] theorem gt6_OpsHangsInR (c : OpsHangsInR) : c.enc[6]? = some (I c.c.many) := rfl
@[simp high] theorem hd7_OpsHangsInR (c : OpsHangsInR) : (c.enc.drop 7).head? = some (S c.c.name) := rfl
@[simp high] theorem gt7_OpsHangsInR (c : OpsHangsInR) : c.enc[7]? = some (S c.c.name) := rfl
@[simp high] theorem hd8_OpsHangsInR (c : OpsHangsInR) : (c.enc.drop 8).head? = some (S c.c.name2) := rfl
@[simp high] theorem gt8_OpsHangsInR (c : OpsHangsInR) : c.enc[8]? = some (S c.c.name2) := rfl
@[simp high] theorem hd9_OpsHangsInR (c : OpsHangsInR) : (c.enc.drop 9).head? = some (S c.c.text) := rfl
@[simp high] theorem gt9_OpsHangsInR (c : OpsHangsInR) : c.enc[9]? = some (S c.c.text) := rfl
@[simp high] theorem hd10_OpsHangsInR (c : OpsHangsInR) : (c.enc.drop 10).head? = some (I c.dir) := rfl
@[simp high] theorem gt10_OpsHangsInR (c : OpsHangsInR) : c.enc[10]? = some (I c.dir) := rfl
@[simp high] theorem hd11_OpsHangsInR (c : OpsHangsInR) : (c.enc.drop 11).head? = some (S c.s) := rfl
@[simp high] theorem gt11_OpsHangsInR (c : OpsHangsInR) : c.enc[11]? = some (S c.s) := rfl
@[simp high] theorem sub0_2_OpsHangsInR (c : OpsHangsInR) : (c.enc).take 2 = c.f.enc := rfl
@[simp high] theorem sub2_8_OpsHangsInR (c : OpsHangsInR) : (c.enc.drop 2).take 8 = c.c.enc := rfl
def OpsHangsInR.wf (c : OpsHangsInR) : Prop := c.f.wf ∧ c.c.wf ∧ inI c.dir ∧ c.s.size ≤ maxLen

structure TransStepsInR where
  s : StoreR
  t : TxnR
  c : CallR
  other : TxnR
def TransStepsInR.enc (c : TransStepsInR) : List AV := c.s.enc ++ c.t.enc ++ c.c.enc ++ c.other.enc
@[simp] theorem TransStepsInR.neat (c : TransStepsInR) : c.enc.all neat = true := by simp [TransStepsInR.enc]
@[simp] theorem TransStepsInR.one (c : TransStepsInR) : c.enc.all isOne = true := rfl
@[simp high] theorem lenc_TransStepsInR (x : TransStepsInR) : x.enc.length = 23 := rfl
@[simp high] theorem takec_TransStepsInR (x : TransStepsInR) : x.enc.take 23 = x.enc := List.take_of_length_le (Nat.le_refl _)
@[simp high] theorem hd0_TransStepsInR (c : TransStepsInR) : (c.enc).head? = some (encL ChainR.enc c.s.l) := rfl
@[simp high] theorem gt0_TransStepsInR (c : TransStepsInR) : c.enc[0]? = some (encL ChainR.enc c.s.l) := rfl
@[simp high] theorem hd1_TransStepsInR (c : TransStepsInR) : (c.enc.drop 1).head? = some (encL CountR.enc c.s.nexts) := rfl
@[simp high] theorem gt1_TransStepsInR (c : TransStepsInR) : c.enc[1]? = some (encL CountR.enc c.s.nexts) := rfl
@[simp high] theorem hd2_TransStepsInR (c : TransStepsInR) : (c.enc.drop 2).head? = some (I c.s.stamp) := rfl
@[simp high] theorem gt2_TransStepsInR (c : TransStepsInR) : c.enc[2]? = some (I c.s.stamp) := rfl
@[simp high] theorem hd3_TransStepsInR (c : TransStepsInR) : (c.enc.drop 3).head? = some (I c.t.stamp) := rfl
@[simp high] theorem gt3_TransStepsInR (c : TransStepsInR) : c.enc[3]? = some (I c.t.stamp) := rfl
@[simp high] theorem hd4_TransStepsInR (c : TransStepsInR) : (c.enc.drop 4).head? = some (encL NodeR.enc c.t.was.l) := rfl
@[simp high] theorem gt4_TransStepsInR (c : TransStepsInR) : c.enc[4]? = some (encL NodeR.enc c.t.was.l) := rfl
@[simp high] theorem hd5_TransStepsInR (c : TransStepsInR) : (c.enc.drop 5).head? = some (I c.t.was.next) := rfl
@[simp high] theorem gt5_TransStepsInR (c : TransStepsInR) : c.enc[5]? = some (I c.t.was.next) := rfl
@[simp high] theorem hd6_TransStepsInR (c : TransStepsInR) : (c.enc.drop 6).head? = some (encL NodeR.enc c.t.now.l) := rfl
@[simp high] theorem gt6_TransStepsInR (c : TransStepsInR) : c.enc[6]? = some (encL NodeR.enc c.t.now.l) := rfl
@[simp high] theorem hd7_TransStepsInR (c : TransStepsInR) : (c.enc.drop 7).head? = some (I c.t.now.next) := rfl
@[simp high] theorem gt7_TransStepsInR (c : TransStepsInR) : c.enc[7]? = some (I c.t.now.next) := rfl
@[simp high] theorem hd8_TransStepsInR (c : TransStepsInR) : (c.enc.drop 8).head? = some (enc1 I c.t.looks) := rfl
@[simp high] theorem gt8_TransStepsInR (c : TransStepsInR) : c.enc[8]? = some (enc1 I c.t.looks) := rfl
@[simp high] theorem hd9_TransStepsInR (c : TransStepsInR) : (c.enc.drop 9).head? = some (I c.c.kind) := rfl
@[simp high] theorem gt9_TransStepsInR (c : TransStepsInR) : c.enc[9]? = some (I c.c.kind) := rfl
@[simp high] theorem hd10_TransStepsInR (c : TransStepsInR) : (c.enc.drop 10).head? = some (I c.c.ino) := rfl
@[simp high] theorem gt10_TransStepsInR (c : TransStepsInR) : c.enc[10]? = some (I c.c.ino) := rfl
@[simp high] theorem hd11_TransStepsInR (c : TransStepsInR) : (c.enc.drop 11).head? = some (I c.c.to_) := rfl
@[simp high] theorem gt11_TransStepsInR (c : TransStepsInR) : c.enc[11]? = some (I c.c.to_) := rfl
@[simp high] theorem hd12_TransStepsInR (c : TransStepsInR) : (c.enc.drop 12).head? = some (I c.c.at_) := rfl
@[simp high] theorem gt12_TransStepsInR (c : TransStepsInR) : c.enc[12]? = some (I c.c.at_) := rfl
@[simp high] theorem hd13_TransStepsInR (c : TransStepsInR) : (c.enc.drop 13).head? = some (I c.c.many) := rfl
@[simp high] theorem gt13_TransStepsInR (c : TransStepsInR) : c.enc[13]? = some (I c.c.many) := rfl
@[simp high] theorem hd14_TransStepsInR (c : TransStepsInR) : (c.enc.drop 14).head? = some (S c.c.name) := rfl
@[simp high] theorem gt14_TransStepsInR (c : TransStepsInR) : c.enc[14]? = some (S c.c.name) := rfl
@[simp high] theorem hd15_TransStepsInR (c : TransStepsInR) : (c.enc.drop 15).head? = some (S c.c.name2) := rfl
@[simp high] theorem gt15_TransStepsInR (c : TransStepsInR) : c.enc[15]? = some (S c.c.name2) := rfl
@[simp high] theorem hd16_TransStepsInR (c : TransStepsInR) : (c.enc.drop 16).head? = some (S c.c.text) := rfl
@[simp high] theorem gt16_TransStepsInR (c : TransStepsInR) : c.enc[16]? = some (S c.c.text) := rfl
@[simp high] theorem hd17_TransStepsInR (c : TransStepsInR) : (c.enc.drop 17).head? = some (I c.other.stamp) := rfl
@[simp high] theorem gt17_TransStepsInR (c : TransStepsInR) : c.enc[17]? = some (I c.other.stamp) := rfl
@[simp high] theorem hd18_TransStepsInR (c : TransStepsInR) : (c.enc.drop 18).head? = some (encL NodeR.enc c.other.was.l) := rfl
@[simp high] theorem gt18_TransStepsInR (c : TransStepsInR) : c.enc[18]? = some (encL NodeR.enc c.other.was.l) := rfl
@[simp high] theorem hd19_TransStepsInR (c : TransStepsInR) : (c.enc.drop 19).head? = some (I c.other.was.next) := rfl
@[simp high] theorem gt19_TransStepsInR (c : TransStepsInR) : c.enc[19]? = some (I c.other.was.next) := rfl
@[simp high] theorem hd20_TransStepsInR (c : TransStepsInR) : (c.enc.drop 20).head? = some (encL NodeR.enc c.other.now.l) := rfl
@[simp high] theorem gt20_TransStepsInR (c : TransStepsInR) : c.enc[20]? = some (encL NodeR.enc c.other.now.l) := rfl
@[simp high] theorem hd21_TransStepsInR (c : TransStepsInR) : (c.enc.drop 21).head? = some (I c.other.now.next) := rfl
@[simp high] theorem gt21_TransStepsInR (c : TransStepsInR) : c.enc[21]? = some (I c.other.now.next) := rfl
@[simp high] theorem hd22_TransStepsInR (c : TransStepsInR) : (c.enc.drop 22).head? = some (enc1 I c.other.looks) := rfl
@[simp high] theorem gt22_TransStepsInR (c : TransStepsInR) : c.enc[22]? = some (enc1 I c.other.looks) := rfl
@[simp high] theorem sub0_3_TransStepsInR (c : TransStepsInR) : (c.enc).take 3 = c.s.enc := rfl
@[simp high] theorem sub3_6_TransStepsInR (c : TransStepsInR) : (c.enc.drop 3).take 6 = c.t.enc := rfl
@[simp high] theorem sub4_2_TransStepsInR (c : TransStepsInR) : (c.enc.drop 4).take 2 = c.t.was.enc := rfl
@[simp high] theorem sub6_2_TransStepsInR (c : TransStepsInR) : (c.enc.drop 6).take 2 = c.t.now.enc := rfl
@[simp high] theorem sub9_8_TransStepsInR (c : TransStepsInR) : (c.enc.drop 9).take 8 = c.c.enc := rfl
@[simp high] theorem sub17_6_TransStepsInR (c : TransStepsInR) : (c.enc.drop 17).take 6 = c.other.enc := rfl
@[simp high] theorem sub18_2_TransStepsInR (c : TransStepsInR) : (c.enc.drop 18).take 2 = c.other.was.enc := rfl
@[simp high] theorem sub20_2_TransStepsInR (c : TransStepsInR) : (c.enc.drop 20).take 2 = c.other.now.enc := rfl
def TransStepsInR.wf (c : TransStepsInR) : Prop := c.s.wf ∧ c.t.wf ∧ c.c.wf ∧ c.other.wf

structure TransSeesInR where
  s : StoreR
  l : List CallR
  others : List CallR
  c : CallR
def TransSeesInR.enc (c : TransSeesInR) : List AV := c.s.enc ++ [encL CallR.enc c.l, encL CallR.enc c.others] ++ c.c.enc
@[simp] theorem TransSeesInR.neat (c : TransSeesInR) : c.enc.all neat = true := by simp [TransSeesInR.enc]
@[simp] theorem TransSeesInR.one (c : TransSeesInR) : c.enc.all isOne = true := rfl
@[simp high] theorem lenc_TransSeesInR (x : TransSeesInR) : x.enc.length = 13 := rfl
@[simp high] theorem takec_TransSeesInR (x : TransSeesInR) : x.enc.take 13 = x.enc := List.take_of_length_le (Nat.le_refl _)
@[simp high] theorem hd0_TransSeesInR (c : TransSeesInR) : (c.enc).head? = some (encL ChainR.enc c.s.l) := rfl
@[simp high] theorem gt0_TransSeesInR (c : TransSeesInR) : c.enc[0]? = some (encL ChainR.enc c.s.l) := rfl
@[simp high] theorem hd1_TransSeesInR (c : TransSeesInR) : (c.enc.drop 1).head? = some (encL CountR.enc c.s.nexts) := rfl
@[simp high] theorem gt1_TransSeesInR (c : TransSeesInR) : c.enc[1]? = some (encL CountR.enc c.s.nexts) := rfl
@[simp high] theorem hd2_TransSeesInR (c : TransSeesInR) : (c.enc.drop 2).head? = some (I c.s.stamp) := rfl
@[simp high] theorem gt2_TransSeesInR (c : TransSeesInR) : c.enc[2]? = some (I c.s.stamp) := rfl
@[simp high] theorem hd3_TransSeesInR (c : TransSeesInR) : (c.enc.drop 3).head? = some (encL CallR.enc c.l) := rfl
@[simp high] theorem gt3_TransSeesInR (c : TransSeesInR) : c.enc[3]? = some (encL CallR.enc c.l) := rfl
@[simp high] theorem hd4_TransSeesInR (c : TransSeesInR) : (c.enc.drop 4).head? = some (encL CallR.enc c.others) := rfl
@[simp high] theorem gt4_TransSeesInR (c : TransSeesInR) : c.enc[4]? = some (encL CallR.enc c.others) := rfl
@[simp high] theorem hd5_TransSeesInR (c : TransSeesInR) : (c.enc.drop 5).head? = some (I c.c.kind) := rfl
@[simp high] theorem gt5_TransSeesInR (c : TransSeesInR) : c.enc[5]? = some (I c.c.kind) := rfl
@[simp high] theorem hd6_TransSeesInR (c : TransSeesInR) : (c.enc.drop 6).head? = some (I c.c.ino) := rfl
@[simp high] theorem gt6_TransSeesInR (c : TransSeesInR) : c.enc[6]? = some (I c.c.ino) := rfl
@[simp high] theorem hd7_TransSeesInR (c : TransSeesInR) : (c.enc.drop 7).head? = some (I c.c.to_) := rfl
@[simp high] theorem gt7_TransSeesInR (c : TransSeesInR) : c.enc[7]? = some (I c.c.to_) := rfl
@[simp high] theorem hd8_TransSeesInR (c : TransSeesInR) : (c.enc.drop 8).head? = some (I c.c.at_) := rfl
@[simp high] theorem gt8_TransSeesInR (c : TransSeesInR) : c.enc[8]? = some (I c.c.at_) := rfl
@[simp high] theorem hd9_TransSeesInR (c : TransSeesInR) : (c.enc.drop 9).head? = some (I c.c.many) := rfl
@[simp high] theorem gt9_TransSeesInR (c : TransSeesInR) : c.enc[9]? = some (I c.c.many) := rfl
@[simp high] theorem hd10_TransSeesInR (c : TransSeesInR) : (c.enc.drop 10).head? = some (S c.c.name) := rfl
@[simp high] theorem gt10_TransSeesInR (c : TransSeesInR) : c.enc[10]? = some (S c.c.name) := rfl
@[simp high] theorem hd11_TransSeesInR (c : TransSeesInR) : (c.enc.drop 11).head? = some (S c.c.name2) := rfl
@[simp high] theorem gt11_TransSeesInR (c : TransSeesInR) : c.enc[11]? = some (S c.c.name2) := rfl
@[simp high] theorem hd12_TransSeesInR (c : TransSeesInR) : (c.enc.drop 12).head? = some (S c.c.text) := rfl
@[simp high] theorem gt12_TransSeesInR (c : TransSeesInR) : c.enc[12]? = some (S c.c.text) := rfl
@[simp high] theorem sub0_3_TransSeesInR (c : TransSeesInR) : (c.enc).take 3 = c.s.enc := rfl
@[simp high] theorem sub5_8_TransSeesInR (c : TransSeesInR) : (c.enc.drop 5).take 8 = c.c.enc := rfl
def TransSeesInR.wf (c : TransSeesInR) : Prop := c.s.wf ∧ (∀ x ∈ c.l, x.wf) ∧ (∀ x ∈ c.others, x.wf) ∧ c.c.wf

structure TableTurnsInR where
  l : List RowR
  client : Int
  epoch : Int
  seq : Int
  yes : Bool
  other : List RowR
def TableTurnsInR.enc (c : TableTurnsInR) : List AV := [encL RowR.enc c.l, I c.client, I c.epoch, I c.seq, B c.yes, encL RowR.enc c.other]
@[simp] theorem TableTurnsInR.neat (c : TableTurnsInR) : c.enc.all neat = true := by simp [TableTurnsInR.enc]
@[simp] theorem TableTurnsInR.one (c : TableTurnsInR) : c.enc.all isOne = true := rfl
@[simp high] theorem lenc_TableTurnsInR (x : TableTurnsInR) : x.enc.length = 6 := rfl
@[simp high] theorem takec_TableTurnsInR (x : TableTurnsInR) : x.enc.take 6 = x.enc := List.take_of_length_le (Nat.le_refl _)
@[simp high] theorem hd0_TableTurnsInR (c : TableTurnsInR) : (c.enc).head? = some (encL RowR.enc c.l) := rfl
@[simp high] theorem gt0_TableTurnsInR (c : TableTurnsInR) : c.enc[0]? = some (encL RowR.enc c.l) := rfl
@[simp high] theorem hd1_TableTurnsInR (c : TableTurnsInR) : (c.enc.drop 1).head? = some (I c.client) := rfl
@[simp high] theorem gt1_TableTurnsInR (c : TableTurnsInR) : c.enc[1]? = some (I c.client) := rfl
@[simp high] theorem hd2_TableTurnsInR (c : TableTurnsInR) : (c.enc.drop 2).head? = some (I c.epoch) := rfl
@[simp high] theorem gt2_TableTurnsInR (c : TableTurnsInR) : c.enc[2]? = some (I c.epoch) := rfl
@[simp high] theorem hd3_TableTurnsInR (c : TableTurnsInR) : (c.enc.drop 3).head? = some (I c.seq) := rfl
@[simp high] theorem gt3_TableTurnsInR (c : TableTurnsInR) : c.enc[3]? = some (I c.seq) := rfl
@[simp high] theorem hd4_TableTurnsInR (c : TableTurnsInR) : (c.enc.drop 4).head? = some (B c.yes) := rfl
@[simp high] theorem gt4_TableTurnsInR (c : TableTurnsInR) : c.enc[4]? = some (B c.yes) := rfl
@[simp high] theorem hd5_TableTurnsInR (c : TableTurnsInR) : (c.enc.drop 5).head? = some (encL RowR.enc c.other) := rfl
@[simp high] theorem gt5_TableTurnsInR (c : TableTurnsInR) : c.enc[5]? = some (encL RowR.enc c.other) := rfl
def TableTurnsInR.wf (c : TableTurnsInR) : Prop := (∀ x ∈ c.l, x.wf) ∧ inI c.client ∧ inI c.epoch ∧ inI c.seq ∧ (∀ x ∈ c.other, x.wf)

structure TableOnceInR where
  l : List RowR
  client : Int
  epoch : Int
  seq : Int
  yes : Bool
  again : Bool
def TableOnceInR.enc (c : TableOnceInR) : List AV := [encL RowR.enc c.l, I c.client, I c.epoch, I c.seq, B c.yes, B c.again]
@[simp] theorem TableOnceInR.neat (c : TableOnceInR) : c.enc.all neat = true := by simp [TableOnceInR.enc]
@[simp] theorem TableOnceInR.one (c : TableOnceInR) : c.enc.all isOne = true := rfl
@[simp high] theorem lenc_TableOnceInR (x : TableOnceInR) : x.enc.length = 6 := rfl
@[simp high] theorem takec_TableOnceInR (x : TableOnceInR) : x.enc.take 6 = x.enc := List.take_of_length_le (Nat.le_refl _)
@[simp high] theorem hd0_TableOnceInR (c : TableOnceInR) : (c.enc).head? = some (encL RowR.enc c.l) := rfl
@[simp high] theorem gt0_TableOnceInR (c : TableOnceInR) : c.enc[0]? = some (encL RowR.enc c.l) := rfl
@[simp high] theorem hd1_TableOnceInR (c : TableOnceInR) : (c.enc.drop 1).head? = some (I c.client) := rfl
@[simp high] theorem gt1_TableOnceInR (c : TableOnceInR) : c.enc[1]? = some (I c.client) := rfl
@[simp high] theorem hd2_TableOnceInR (c : TableOnceInR) : (c.enc.drop 2).head? = some (I c.epoch) := rfl
@[simp high] theorem gt2_TableOnceInR (c : TableOnceInR) : c.enc[2]? = some (I c.epoch) := rfl
@[simp high] theorem hd3_TableOnceInR (c : TableOnceInR) : (c.enc.drop 3).head? = some (I c.seq) := rfl
@[simp high] theorem gt3_TableOnceInR (c : TableOnceInR) : c.enc[3]? = some (I c.seq) := rfl
@[simp high] theorem hd4_TableOnceInR (c : TableOnceInR) : (c.enc.drop 4).head? = some (B c.yes) := rfl
@[simp high] theorem gt4_TableOnceInR (c : TableOnceInR) : c.enc[4]? = some (B c.yes) := rfl
@[simp high] theorem hd5_TableOnceInR (c : TableOnceInR) : (c.enc.drop 5).head? = some (B c.again) := rfl
@[simp high] theorem gt5_TableOnceInR (c : TableOnceInR) : c.enc[5]? = some (B c.again) := rfl
def TableOnceInR.wf (c : TableOnceInR) : Prop := (∀ x ∈ c.l, x.wf) ∧ inI c.client ∧ inI c.epoch ∧ inI c.seq

structure TableOthersInR where
  l : List RowR
  client : Int
  epoch : Int
  seq : Int
  other : Int
  n : Int
def TableOthersInR.enc (c : TableOthersInR) : List AV := [encL RowR.enc c.l, I c.client, I c.epoch, I c.seq, I c.other, I c.n]
@[simp] theorem TableOthersInR.neat (c : TableOthersInR) : c.enc.all neat = true := by simp [TableOthersInR.enc]
@[simp] theorem TableOthersInR.one (c : TableOthersInR) : c.enc.all isOne = true := rfl
@[simp high] theorem lenc_TableOthersInR (x : TableOthersInR) : x.enc.length = 6 := rfl
@[simp high] theorem takec_TableOthersInR (x : TableOthersInR) : x.enc.take 6 = x.enc := List.take_of_length_le (Nat.le_refl _)
@[simp high] theorem hd0_TableOthersInR (c : TableOthersInR) : (c.enc).head? = some (encL RowR.enc c.l) := rfl
@[simp high] theorem gt0_TableOthersInR (c : TableOthersInR) : c.enc[0]? = some (encL RowR.enc c.l) := rfl
@[simp high] theorem hd1_TableOthersInR (c : TableOthersInR) : (c.enc.drop 1).head? = some (I c.client) := rfl
@[simp high] theorem gt1_TableOthersInR (c : TableOthersInR) : c.enc[1]? = some (I c.client) := rfl
@[simp high] theorem hd2_TableOthersInR (c : TableOthersInR) : (c.enc.drop 2).head? = some (I c.epoch) := rfl
@[simp high] theorem gt2_TableOthersInR (c : TableOthersInR) : c.enc[2]? = some (I c.epoch) := rfl
@[simp high] theorem hd3_TableOthersInR (c : TableOthersInR) : (c.enc.drop 3).head? = some (I c.seq) := rfl
@[simp high] theorem gt3_TableOthersInR (c : TableOthersInR) : c.enc[3]? = some (I c.seq) := rfl
@[simp high] theorem hd4_TableOthersInR (c : TableOthersInR) : (c.enc.drop 4).head? = some (I c.other) := rfl
@[simp high] theorem gt4_TableOthersInR (c : TableOthersInR) : c.enc[4]? = some (I c.other) := rfl
@[simp high] theorem hd5_TableOthersInR (c : TableOthersInR) : (c.enc.drop 5).head? = some (I c.n) := rfl
@[simp high] theorem gt5_TableOthersInR (c : TableOthersInR) : c.enc[5]? = some (I c.n) := rfl
def TableOthersInR.wf (c : TableOthersInR) : Prop := (∀ x ∈ c.l, x.wf) ∧ inI c.client ∧ inI c.epoch ∧ inI c.seq ∧ inI c.other ∧ inI c.n

structure TableEpochsInR where
  l : List RowR
  client : Int
  epoch : Int
  seq : Int
  n : Int
def TableEpochsInR.enc (c : TableEpochsInR) : List AV := [encL RowR.enc c.l, I c.client, I c.epoch, I c.seq, I c.n]
@[simp] theorem TableEpochsInR.neat (c : TableEpochsInR) : c.enc.all neat = true := by simp [TableEpochsInR.enc]
@[simp] theorem TableEpochsInR.one (c : TableEpochsInR) : c.enc.all isOne = true := rfl
@[simp high] theorem lenc_TableEpochsInR (x : TableEpochsInR) : x.enc.length = 5 := rfl
@[simp high] theorem takec_TableEpochsInR (x : TableEpochsInR) : x.enc.take 5 = x.enc := List.take_of_length_le (Nat.le_refl _)
@[simp high] theorem hd0_TableEpochsInR (c : TableEpochsInR) : (c.enc).head? = some (encL RowR.enc c.l) := rfl
@[simp high] theorem gt0_TableEpochsInR (c : TableEpochsInR) : c.enc[0]? = some (encL RowR.enc c.l) := rfl
@[simp high] theorem hd1_TableEpochsInR (c : TableEpochsInR) : (c.enc.drop 1).head? = some (I c.client) := rfl
@[simp high] theorem gt1_TableEpochsInR (c : TableEpochsInR) : c.enc[1]? = some (I c.client) := rfl
@[simp high] theorem hd2_TableEpochsInR (c : TableEpochsInR) : (c.enc.drop 2).head? = some (I c.epoch) := rfl
@[simp high] theorem gt2_TableEpochsInR (c : TableEpochsInR) : c.enc[2]? = some (I c.epoch) := rfl
@[simp high] theorem hd3_TableEpochsInR (c : TableEpochsInR) : (c.enc.drop 3).head? = some (I c.seq) := rfl
@[simp high] theorem gt3_TableEpochsInR (c : TableEpochsInR) : c.enc[3]? = some (I c.seq) := rfl
@[simp high] theorem hd4_TableEpochsInR (c : TableEpochsInR) : (c.enc.drop 4).head? = some (I c.n) := rfl
@[simp high] theorem gt4_TableEpochsInR (c : TableEpochsInR) : c.enc[4]? = some (I c.n) := rfl
def TableEpochsInR.wf (c : TableEpochsInR) : Prop := (∀ x ∈ c.l, x.wf) ∧ inI c.client ∧ inI c.epoch ∧ inI c.seq ∧ inI c.n

structure TableForgetsInR where
  l : List RowR
  client : Int
  epoch : Int
  done : Int
  seq : Int
def TableForgetsInR.enc (c : TableForgetsInR) : List AV := [encL RowR.enc c.l, I c.client, I c.epoch, I c.done, I c.seq]
@[simp] theorem TableForgetsInR.neat (c : TableForgetsInR) : c.enc.all neat = true := by simp [TableForgetsInR.enc]
@[simp] theorem TableForgetsInR.one (c : TableForgetsInR) : c.enc.all isOne = true := rfl
@[simp high] theorem lenc_TableForgetsInR (x : TableForgetsInR) : x.enc.length = 5 := rfl
@[simp high] theorem takec_TableForgetsInR (x : TableForgetsInR) : x.enc.take 5 = x.enc := List.take_of_length_le (Nat.le_refl _)
@[simp high] theorem hd0_TableForgetsInR (c : TableForgetsInR) : (c.enc).head? = some (encL RowR.enc c.l) := rfl
@[simp high] theorem gt0_TableForgetsInR (c : TableForgetsInR) : c.enc[0]? = some (encL RowR.enc c.l) := rfl
@[simp high] theorem hd1_TableForgetsInR (c : TableForgetsInR) : (c.enc.drop 1).head? = some (I c.client) := rfl
@[simp high] theorem gt1_TableForgetsInR (c : TableForgetsInR) : c.enc[1]? = some (I c.client) := rfl
@[simp high] theorem hd2_TableForgetsInR (c : TableForgetsInR) : (c.enc.drop 2).head? = some (I c.epoch) := rfl
@[simp high] theorem gt2_TableForgetsInR (c : TableForgetsInR) : c.enc[2]? = some (I c.epoch) := rfl
@[simp high] theorem hd3_TableForgetsInR (c : TableForgetsInR) : (c.enc.drop 3).head? = some (I c.done) := rfl
@[simp high] theorem gt3_TableForgetsInR (c : TableForgetsInR) : c.enc[3]? = some (I c.done) := rfl
@[simp high] theorem hd4_TableForgetsInR (c : TableForgetsInR) : (c.enc.drop 4).head? = some (I c.seq) := rfl
@[simp high] theorem gt4_TableForgetsInR (c : TableForgetsInR) : c.enc[4]? = some (I c.seq) := rfl
def TableForgetsInR.wf (c : TableForgetsInR) : Prop := (∀ x ∈ c.l, x.wf) ∧ inI c.client ∧ inI c.epoch ∧ inI c.done ∧ inI c.seq

structure TableWholeInR where
  l : List RowR
  client : Int
  epoch : Int
  seq : Int
  cut : Int
def TableWholeInR.enc (c : TableWholeInR) : List AV := [encL RowR.enc c.l, I c.client, I c.epoch, I c.seq, I c.cut]
@[simp] theorem TableWholeInR.neat (c : TableWholeInR) : c.enc.all neat = true := by simp [TableWholeInR.enc]
@[simp] theorem TableWholeInR.one (c : TableWholeInR) : c.enc.all isOne = true := rfl
@[simp high] theorem lenc_TableWholeInR (x : TableWholeInR) : x.enc.length = 5 := rfl
@[simp high] theorem takec_TableWholeInR (x : TableWholeInR) : x.enc.take 5 = x.enc := List.take_of_length_le (Nat.le_refl _)
@[simp high] theorem hd0_TableWholeInR (c : TableWholeInR) : (c.enc).head? = some (encL RowR.enc c.l) := rfl
@[simp high] theorem gt0_TableWholeInR (c : TableWholeInR) : c.enc[0]? = some (encL RowR.enc c.l) := rfl
@[simp high] theorem hd1_TableWholeInR (c : TableWholeInR) : (c.enc.drop 1).head? = some (I c.client) := rfl
@[simp high] theorem gt1_TableWholeInR (c : TableWholeInR) : c.enc[1]? = some (I c.client) := rfl
@[simp high] theorem hd2_TableWholeInR (c : TableWholeInR) : (c.enc.drop 2).head? = some (I c.epoch) := rfl
@[simp high] theorem gt2_TableWholeInR (c : TableWholeInR) : c.enc[2]? = some (I c.epoch) := rfl
@[simp high] theorem hd3_TableWholeInR (c : TableWholeInR) : (c.enc.drop 3).head? = some (I c.seq) := rfl
@[simp high] theorem gt3_TableWholeInR (c : TableWholeInR) : c.enc[3]? = some (I c.seq) := rfl
@[simp high] theorem hd4_TableWholeInR (c : TableWholeInR) : (c.enc.drop 4).head? = some (I c.cut) := rfl
@[simp high] theorem gt4_TableWholeInR (c : TableWholeInR) : c.enc[4]? = some (I c.cut) := rfl
def TableWholeInR.wf (c : TableWholeInR) : Prop := (∀ x ∈ c.l, x.wf) ∧ inI c.client ∧ inI c.epoch ∧ inI c.seq ∧ inI c.cut

structure HostRightsInR where
  h : HostR
  client : Int
  lease : Int
  other : HostR
def HostRightsInR.enc (c : HostRightsInR) : List AV := c.h.enc ++ [I c.client, I c.lease] ++ c.other.enc
@[simp] theorem HostRightsInR.neat (c : HostRightsInR) : c.enc.all neat = true := by simp [HostRightsInR.enc]
@[simp] theorem HostRightsInR.one (c : HostRightsInR) : c.enc.all isOne = true := rfl
@[simp high] theorem lenc_HostRightsInR (x : HostRightsInR) : x.enc.length = 16 := rfl
@[simp high] theorem takec_HostRightsInR (x : HostRightsInR) : x.enc.take 16 = x.enc := List.take_of_length_le (Nat.le_refl _)
@[simp high] theorem hd0_HostRightsInR (c : HostRightsInR) : (c.enc).head? = some (encL ChainR.enc c.h.s.l) := rfl
@[simp high] theorem gt0_HostRightsInR (c : HostRightsInR) : c.enc[0]? = some (encL ChainR.enc c.h.s.l) := rfl
@[simp high] theorem hd1_HostRightsInR (c : HostRightsInR) : (c.enc.drop 1).head? = some (encL CountR.enc c.h.s.nexts) := rfl
@[simp high] theorem gt1_HostRightsInR (c : HostRightsInR) : c.enc[1]? = some (encL CountR.enc c.h.s.nexts) := rfl
@[simp high] theorem hd2_HostRightsInR (c : HostRightsInR) : (c.enc.drop 2).head? = some (I c.h.s.stamp) := rfl
@[simp high] theorem gt2_HostRightsInR (c : HostRightsInR) : c.enc[2]? = some (I c.h.s.stamp) := rfl
@[simp high] theorem hd3_HostRightsInR (c : HostRightsInR) : (c.enc.drop 3).head? = some (encL RowR.enc c.h.rows) := rfl
@[simp high] theorem gt3_HostRightsInR (c : HostRightsInR) : c.enc[3]? = some (encL RowR.enc c.h.rows) := rfl
@[simp high] theorem hd4_HostRightsInR (c : HostRightsInR) : (c.enc.drop 4).head? = some (encL OpenR.enc c.h.opens) := rfl
@[simp high] theorem gt4_HostRightsInR (c : HostRightsInR) : c.enc[4]? = some (encL OpenR.enc c.h.opens) := rfl
@[simp high] theorem hd5_HostRightsInR (c : HostRightsInR) : (c.enc.drop 5).head? = some (I c.h.now) := rfl
@[simp high] theorem gt5_HostRightsInR (c : HostRightsInR) : c.enc[5]? = some (I c.h.now) := rfl
@[simp high] theorem hd6_HostRightsInR (c : HostRightsInR) : (c.enc.drop 6).head? = some (I c.h.lease) := rfl
@[simp high] theorem gt6_HostRightsInR (c : HostRightsInR) : c.enc[6]? = some (I c.h.lease) := rfl
@[simp high] theorem hd7_HostRightsInR (c : HostRightsInR) : (c.enc.drop 7).head? = some (I c.client) := rfl
@[simp high] theorem gt7_HostRightsInR (c : HostRightsInR) : c.enc[7]? = some (I c.client) := rfl
@[simp high] theorem hd8_HostRightsInR (c : HostRightsInR) : (c.enc.drop 8).head? = some (I c.lease) := rfl
@[simp high] theorem gt8_HostRightsInR (c : HostRightsInR) : c.enc[8]? = some (I c.lease) := rfl
@[simp high] theorem hd9_HostRightsInR (c : HostRightsInR) : (c.enc.drop 9).head? = some (encL ChainR.enc c.other.s.l) := rfl
@[simp high] theorem gt9_HostRightsInR (c : HostRightsInR) : c.enc[9]? = some (encL ChainR.enc c.other.s.l) := rfl
@[simp high] theorem hd10_HostRightsInR (c : HostRightsInR) : (c.enc.drop 10).head? = some (encL CountR.enc c.other.s.nexts) := rfl
@[simp high] theorem gt10_HostRightsInR (c : HostRightsInR) : c.enc[10]? = some (encL CountR.enc c.other.s.nexts) := rfl
@[simp high] theorem hd11_HostRightsInR (c : HostRightsInR) : (c.enc.drop 11).head? = some (I c.other.s.stamp) := rfl
@[simp high] theorem gt11_HostRightsInR (c : HostRightsInR) : c.enc[11]? = some (I c.other.s.stamp) := rfl
@[simp high] theorem hd12_HostRightsInR (c : HostRightsInR) : (c.enc.drop 12).head? = some (encL RowR.enc c.other.rows) := rfl
@[simp high] theorem gt12_HostRightsInR (c : HostRightsInR) : c.enc[12]? = some (encL RowR.enc c.other.rows) := rfl
@[simp high] theorem hd13_HostRightsInR (c : HostRightsInR) : (c.enc.drop 13).head? = some (encL OpenR.enc c.other.opens) := rfl
@[simp high] theorem gt13_HostRightsInR (c : HostRightsInR) : c.enc[13]? = some (encL OpenR.enc c.other.opens) := rfl
@[simp high] theorem hd14_HostRightsInR (c : HostRightsInR) : (c.enc.drop 14).head? = some (I c.other.now) := rfl
@[simp high] theorem gt14_HostRightsInR (c : HostRightsInR) : c.enc[14]? = some (I c.other.now) := rfl
@[simp high] theorem hd15_HostRightsInR (c : HostRightsInR) : (c.enc.drop 15).head? = some (I c.other.lease) := rfl
@[simp high] theorem gt15_HostRightsInR (c : HostRightsInR) : c.enc[15]? = some (I c.other.lease) := rfl
@[simp high] theorem sub0_7_HostRightsInR (c : HostRightsInR) : (c.enc).take 7 = c.h.enc := rfl
@[simp high] theorem sub0_3_HostRightsInR (c : HostRightsInR) : (c.enc).take 3 = c.h.s.enc := rfl
@[simp high] theorem sub9_7_HostRightsInR (c : HostRightsInR) : (c.enc.drop 9).take 7 = c.other.enc := rfl
@[simp high] theorem sub9_3_HostRightsInR (c : HostRightsInR) : (c.enc.drop 9).take 3 = c.other.s.enc := rfl
def HostRightsInR.wf (c : HostRightsInR) : Prop := c.h.wf ∧ inI c.client ∧ inI c.lease ∧ c.other.wf

structure KeepPlaysInR where
  h : HostR
  s : ByteArray
  m : MsgR
  l : List ChangeR
  next : Int
def KeepPlaysInR.enc (c : KeepPlaysInR) : List AV := c.h.enc ++ [S c.s] ++ c.m.enc ++ [encL ChangeR.enc c.l, I c.next]
@[simp] theorem KeepPlaysInR.neat (c : KeepPlaysInR) : c.enc.all neat = true := by simp [KeepPlaysInR.enc]
@[simp] theorem KeepPlaysInR.one (c : KeepPlaysInR) : c.enc.all isOne = true := rfl
@[simp high] theorem lenc_KeepPlaysInR (x : KeepPlaysInR) : x.enc.length = 24 := rfl
@[simp high] theorem takec_KeepPlaysInR (x : KeepPlaysInR) : x.enc.take 24 = x.enc := List.take_of_length_le (Nat.le_refl _)
@[simp high] theorem hd0_KeepPlaysInR (c : KeepPlaysInR) : (c.enc).head? = some (encL ChainR.enc c.h.s.l) := rfl
@[simp high] theorem gt0_KeepPlaysInR (c : KeepPlaysInR) : c.enc[0]? = some (encL ChainR.enc c.h.s.l) := rfl
@[simp high] theorem hd1_KeepPlaysInR (c : KeepPlaysInR) : (c.enc.drop 1).head? = some (encL CountR.enc c.h.s.nexts) := rfl
@[simp high] theorem gt1_KeepPlaysInR (c : KeepPlaysInR) : c.enc[1]? = some (encL CountR.enc c.h.s.nexts) := rfl
@[simp high] theorem hd2_KeepPlaysInR (c : KeepPlaysInR) : (c.enc.drop 2).head? = some (I c.h.s.stamp) := rfl
@[simp high] theorem gt2_KeepPlaysInR (c : KeepPlaysInR) : c.enc[2]? = some (I c.h.s.stamp) := rfl
@[simp high] theorem hd3_KeepPlaysInR (c : KeepPlaysInR) : (c.enc.drop 3).head? = some (encL RowR.enc c.h.rows) := rfl
@[simp high] theorem gt3_KeepPlaysInR (c : KeepPlaysInR) : c.enc[3]? = some (encL RowR.enc c.h.rows) := rfl
@[simp high] theorem hd4_KeepPlaysInR (c : KeepPlaysInR) : (c.enc.drop 4).head? = some (encL OpenR.enc c.h.opens) := rfl
@[simp high] theorem gt4_KeepPlaysInR (c : KeepPlaysInR) : c.enc[4]? = some (encL OpenR.enc c.h.opens) := rfl
@[simp high] theorem hd5_KeepPlaysInR (c : KeepPlaysInR) : (c.enc.drop 5).head? = some (I c.h.now) := rfl
@[simp high] theorem gt5_KeepPlaysInR (c : KeepPlaysInR) : c.enc[5]? = some (I c.h.now) := rfl
@[simp high] theorem hd6_KeepPlaysInR (c : KeepPlaysInR) : (c.enc.drop 6).head? = some (I c.h.lease) := rfl
@[simp high] theorem gt6_KeepPlaysInR (c : KeepPlaysInR) : c.enc[6]? = some (I c.h.lease) := rfl
@[simp high] theorem hd7_KeepPlaysInR (c : KeepPlaysInR) : (c.enc.drop 7).head? = some (S c.s) := rfl
@[simp high] theorem gt7_KeepPlaysInR (c : KeepPlaysInR) : c.enc[7]? = some (S c.s) := rfl
@[simp high] theorem hd8_KeepPlaysInR (c : KeepPlaysInR) : (c.enc.drop 8).head? = some (I c.m.kind) := rfl
@[simp high] theorem gt8_KeepPlaysInR (c : KeepPlaysInR) : c.enc[8]? = some (I c.m.kind) := rfl
@[simp high] theorem hd9_KeepPlaysInR (c : KeepPlaysInR) : (c.enc.drop 9).head? = some (I c.m.client) := rfl
@[simp high] theorem gt9_KeepPlaysInR (c : KeepPlaysInR) : c.enc[9]? = some (I c.m.client) := rfl
@[simp high] theorem hd10_KeepPlaysInR (c : KeepPlaysInR) : (c.enc.drop 10).head? = some (I c.m.epoch) := rfl
@[simp high] theorem gt10_KeepPlaysInR (c : KeepPlaysInR) : c.enc[10]? = some (I c.m.epoch) := rfl
@[simp high] theorem hd11_KeepPlaysInR (c : KeepPlaysInR) : (c.enc.drop 11).head? = some (I c.m.seq) := rfl
@[simp high] theorem gt11_KeepPlaysInR (c : KeepPlaysInR) : c.enc[11]? = some (I c.m.seq) := rfl
@[simp high] theorem hd12_KeepPlaysInR (c : KeepPlaysInR) : (c.enc.drop 12).head? = some (I c.m.n) := rfl
@[simp high] theorem gt12_KeepPlaysInR (c : KeepPlaysInR) : c.enc[12]? = some (I c.m.n) := rfl
@[simp high] theorem hd13_KeepPlaysInR (c : KeepPlaysInR) : (c.enc.drop 13).head? = some (I c.m.stamp) := rfl
@[simp high] theorem gt13_KeepPlaysInR (c : KeepPlaysInR) : c.enc[13]? = some (I c.m.stamp) := rfl
@[simp high] theorem hd14_KeepPlaysInR (c : KeepPlaysInR) : (c.enc.drop 14).head? = some (I c.m.c.kind) := rfl
@[simp high] theorem gt14_KeepPlaysInR (c : KeepPlaysInR) : c.enc[14]? = some (I c.m.c.kind) := rfl
@[simp high] theorem hd15_KeepPlaysInR (c : KeepPlaysInR) : (c.enc.drop 15).head? = some (I c.m.c.ino) := rfl
@[simp high] theorem gt15_KeepPlaysInR (c : KeepPlaysInR) : c.enc[15]? = some (I c.m.c.ino) := rfl
@[simp high] theorem hd16_KeepPlaysInR (c : KeepPlaysInR) : (c.enc.drop 16).head? = some (I c.m.c.to_) := rfl
@[simp high] theorem gt16_KeepPlaysInR (c : KeepPlaysInR) : c.enc[16]? = some (I c.m.c.to_) := rfl
@[simp high] theorem hd17_KeepPlaysInR (c : KeepPlaysInR) : (c.enc.drop 17).head? = some (I c.m.c.at_) := rfl
@[simp high] theorem gt17_KeepPlaysInR (c : KeepPlaysInR) : c.enc[17]? = some (I c.m.c.at_) := rfl
@[simp high] theorem hd18_KeepPlaysInR (c : KeepPlaysInR) : (c.enc.drop 18).head? = some (I c.m.c.many) := rfl
@[simp high] theorem gt18_KeepPlaysInR (c : KeepPlaysInR) : c.enc[18]? = some (I c.m.c.many) := rfl
@[simp high] theorem hd19_KeepPlaysInR (c : KeepPlaysInR) : (c.enc.drop 19).head? = some (S c.m.c.name) := rfl
@[simp high] theorem gt19_KeepPlaysInR (c : KeepPlaysInR) : c.enc[19]? = some (S c.m.c.name) := rfl
@[simp high] theorem hd20_KeepPlaysInR (c : KeepPlaysInR) : (c.enc.drop 20).head? = some (S c.m.c.name2) := rfl
@[simp high] theorem gt20_KeepPlaysInR (c : KeepPlaysInR) : c.enc[20]? = some (S c.m.c.name2) := rfl
@[simp high] theorem hd21_KeepPlaysInR (c : KeepPlaysInR) : (c.enc.drop 21).head? = some (S c.m.c.text) := rfl
@[simp high] theorem gt21_KeepPlaysInR (c : KeepPlaysInR) : c.enc[21]? = some (S c.m.c.text) := rfl
@[simp high] theorem hd22_KeepPlaysInR (c : KeepPlaysInR) : (c.enc.drop 22).head? = some (encL ChangeR.enc c.l) := rfl
@[simp high] theorem gt22_KeepPlaysInR (c : KeepPlaysInR) : c.enc[22]? = some (encL ChangeR.enc c.l) := rfl
@[simp high] theorem hd23_KeepPlaysInR (c : KeepPlaysInR) : (c.enc.drop 23).head? = some (I c.next) := rfl
@[simp high] theorem gt23_KeepPlaysInR (c : KeepPlaysInR) : c.enc[23]? = some (I c.next) := rfl
@[simp high] theorem sub0_7_KeepPlaysInR (c : KeepPlaysInR) : (c.enc).take 7 = c.h.enc := rfl
@[simp high] theorem sub0_3_KeepPlaysInR (c : KeepPlaysInR) : (c.enc).take 3 = c.h.s.enc := rfl
@[simp high] theorem sub8_14_KeepPlaysInR (c : KeepPlaysInR) : (c.enc.drop 8).take 14 = c.m.enc := rfl
@[simp high] theorem sub14_8_KeepPlaysInR (c : KeepPlaysInR) : (c.enc.drop 14).take 8 = c.m.c.enc := rfl
def KeepPlaysInR.wf (c : KeepPlaysInR) : Prop := c.h.wf ∧ c.s.size ≤ maxLen ∧ c.m.wf ∧ (∀ x ∈ c.l, x.wf) ∧ inI c.next
end Go.Cx
