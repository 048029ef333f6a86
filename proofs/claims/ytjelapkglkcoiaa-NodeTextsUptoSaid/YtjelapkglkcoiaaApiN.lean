/- The other records of the program, as plain Lean, and how their cells lie. Printed by recs.py. -/
import Derived.Test.YtjelapkglkcoiaaApiM
set_option linter.unusedVariables false
set_option linter.unusedSimpArgs false
namespace Go.Cx
abbrev U (n : Int) : AV := .val (.int .u64 n)
abbrev Y8 (n : Int) : AV := .val (.int .u8 n)
def inU (n : Int) : Prop := 0 ≤ n ∧ n < 18446744073709551616
def inY (n : Int) : Prop := 0 ≤ n ∧ n < 256
@[simp] theorem all_ints (l : List Int) : (l.map I).all neat = true := all_map1 (by simp) l
@[simp high] theorem one_ints (l : List Int) : (l.map I).all isOne = true := one_map1 (fun _ => rfl) l
@[simp] theorem all_bools (l : List Bool) : (l.map B).all neat = true := all_map1 (by simp) l
@[simp high] theorem one_bools (l : List Bool) : (l.map B).all isOne = true := one_map1 (fun _ => rfl) l

structure EntryR where
  name : ByteArray
  ino : Int
  deriving DecidableEq
def EntryR.enc (c : EntryR) : List AV := [S c.name, I c.ino]
def EntryR.zero : EntryR := ⟨.empty, 0⟩
@[simp] theorem EntryR.neat (c : EntryR) : c.enc.all neat = true := by simp [EntryR.enc]
@[simp] theorem all_EntryR (l : List EntryR) : (l.flatMap EntryR.enc).all neat = true := all_flat EntryR.neat l
@[simp] theorem EntryR.one (c : EntryR) : c.enc.all isOne = true := rfl
@[simp high] theorem one_EntryR (l : List EntryR) : (l.flatMap EntryR.enc).all isOne = true := one_flat EntryR.one l
@[simp high] theorem lenc_EntryR (x : EntryR) : x.enc.length = 2 := rfl
@[simp high] theorem takec_EntryR (x : EntryR) : x.enc.take 2 = x.enc := List.take_of_length_le (Nat.le_refl _)
@[simp high] theorem len_EntryR (l : List EntryR) : (l.flatMap EntryR.enc).length = l.length * 2 := len_flat (enc := EntryR.enc) (k := 2) (fun _ => rfl) l
@[simp high] theorem take_EntryR (l : List EntryR) : (l.flatMap EntryR.enc).take (l.length * 2) = l.flatMap EntryR.enc := take_all (enc := EntryR.enc) (k := 2) (fun _ => rfl) l
@[simp high] theorem at_EntryR {l : List EntryR} {i : Nat} (h : i < l.length) : List.take 2 (List.drop (i * 2) (l.flatMap EntryR.enc)) = (l[i]).enc := cells_at (enc := EntryR.enc) (k := 2) (fun _ => rfl) l i l[i] (by simp [h])
@[simp high] theorem at0_EntryR {l : List EntryR} (h : 0 < l.length) : List.take 2 (l.flatMap EntryR.enc) = (l[0]).enc := by have := at_EntryR (l := l) h; simpa using this
@[simp high] theorem at1_EntryR {l : List EntryR} (h : 1 < l.length) : List.take 2 (List.drop 2 (l.flatMap EntryR.enc)) = (l[1]).enc := by have := at_EntryR (l := l) h; simpa using this
theorem takes_EntryR (l : List EntryR) (n : Nat) : (l.flatMap EntryR.enc).take (n * 2) = (l.take n).flatMap EntryR.enc := take_flat (enc := EntryR.enc) (k := 2) (fun _ => rfl) l n
theorem drops_EntryR (l : List EntryR) (n : Nat) : (l.flatMap EntryR.enc).drop (n * 2) = (l.drop n).flatMap EntryR.enc := drop_flat (enc := EntryR.enc) (k := 2) (fun _ => rfl) l n
theorem EntryR.eq_iff (a b : EntryR) : a = b ↔ a.name = b.name ∧ a.ino = b.ino := by cases a; cases b; simp
def EntryR.wf (c : EntryR) : Prop := c.name.size ≤ maxLen ∧ inI c.ino

structure NodeR where
  ino : Int
  kind : Int
  links : Int
  text : ByteArray
  l : List EntryR
  deriving DecidableEq
def NodeR.enc (c : NodeR) : List AV := [I c.ino, I c.kind, I c.links, S c.text, encL EntryR.enc c.l]
def NodeR.zero : NodeR := ⟨0, 0, 0, .empty, []⟩
@[simp] theorem NodeR.neat (c : NodeR) : c.enc.all neat = true := by simp [NodeR.enc]
@[simp] theorem all_NodeR (l : List NodeR) : (l.flatMap NodeR.enc).all neat = true := all_flat NodeR.neat l
@[simp] theorem NodeR.one (c : NodeR) : c.enc.all isOne = true := rfl
@[simp high] theorem one_NodeR (l : List NodeR) : (l.flatMap NodeR.enc).all isOne = true := one_flat NodeR.one l
@[simp high] theorem lenc_NodeR (x : NodeR) : x.enc.length = 5 := rfl
@[simp high] theorem takec_NodeR (x : NodeR) : x.enc.take 5 = x.enc := List.take_of_length_le (Nat.le_refl _)
@[simp high] theorem len_NodeR (l : List NodeR) : (l.flatMap NodeR.enc).length = l.length * 5 := len_flat (enc := NodeR.enc) (k := 5) (fun _ => rfl) l
@[simp high] theorem take_NodeR (l : List NodeR) : (l.flatMap NodeR.enc).take (l.length * 5) = l.flatMap NodeR.enc := take_all (enc := NodeR.enc) (k := 5) (fun _ => rfl) l
@[simp high] theorem at_NodeR {l : List NodeR} {i : Nat} (h : i < l.length) : List.take 5 (List.drop (i * 5) (l.flatMap NodeR.enc)) = (l[i]).enc := cells_at (enc := NodeR.enc) (k := 5) (fun _ => rfl) l i l[i] (by simp [h])
@[simp high] theorem at0_NodeR {l : List NodeR} (h : 0 < l.length) : List.take 5 (l.flatMap NodeR.enc) = (l[0]).enc := by have := at_NodeR (l := l) h; simpa using this
@[simp high] theorem at1_NodeR {l : List NodeR} (h : 1 < l.length) : List.take 5 (List.drop 5 (l.flatMap NodeR.enc)) = (l[1]).enc := by have := at_NodeR (l := l) h; simpa using this
theorem takes_NodeR (l : List NodeR) (n : Nat) : (l.flatMap NodeR.enc).take (n * 5) = (l.take n).flatMap NodeR.enc := take_flat (enc := NodeR.enc) (k := 5) (fun _ => rfl) l n
theorem drops_NodeR (l : List NodeR) (n : Nat) : (l.flatMap NodeR.enc).drop (n * 5) = (l.drop n).flatMap NodeR.enc := drop_flat (enc := NodeR.enc) (k := 5) (fun _ => rfl) l n
theorem NodeR.eq_iff (a b : NodeR) : a = b ↔ a.ino = b.ino ∧ a.kind = b.kind ∧ a.links = b.links ∧ a.text = b.text ∧ a.l = b.l := by cases a; cases b; simp
def NodeR.wf (c : NodeR) : Prop := inI c.ino ∧ inI c.kind ∧ inI c.links ∧ c.text.size ≤ maxLen ∧ (∀ x ∈ c.l, x.wf)

structure FSR where
  l : List NodeR
  next : Int
  deriving DecidableEq
def FSR.enc (c : FSR) : List AV := [encL NodeR.enc c.l, I c.next]
def FSR.zero : FSR := ⟨[], 0⟩
@[simp] theorem FSR.neat (c : FSR) : c.enc.all neat = true := by simp [FSR.enc]
@[simp] theorem all_FSR (l : List FSR) : (l.flatMap FSR.enc).all neat = true := all_flat FSR.neat l
@[simp] theorem FSR.one (c : FSR) : c.enc.all isOne = true := rfl
@[simp high] theorem one_FSR (l : List FSR) : (l.flatMap FSR.enc).all isOne = true := one_flat FSR.one l
@[simp high] theorem lenc_FSR (x : FSR) : x.enc.length = 2 := rfl
@[simp high] theorem takec_FSR (x : FSR) : x.enc.take 2 = x.enc := List.take_of_length_le (Nat.le_refl _)
@[simp high] theorem len_FSR (l : List FSR) : (l.flatMap FSR.enc).length = l.length * 2 := len_flat (enc := FSR.enc) (k := 2) (fun _ => rfl) l
@[simp high] theorem take_FSR (l : List FSR) : (l.flatMap FSR.enc).take (l.length * 2) = l.flatMap FSR.enc := take_all (enc := FSR.enc) (k := 2) (fun _ => rfl) l
@[simp high] theorem at_FSR {l : List FSR} {i : Nat} (h : i < l.length) : List.take 2 (List.drop (i * 2) (l.flatMap FSR.enc)) = (l[i]).enc := cells_at (enc := FSR.enc) (k := 2) (fun _ => rfl) l i l[i] (by simp [h])
@[simp high] theorem at0_FSR {l : List FSR} (h : 0 < l.length) : List.take 2 (l.flatMap FSR.enc) = (l[0]).enc := by have := at_FSR (l := l) h; simpa using this
@[simp high] theorem at1_FSR {l : List FSR} (h : 1 < l.length) : List.take 2 (List.drop 2 (l.flatMap FSR.enc)) = (l[1]).enc := by have := at_FSR (l := l) h; simpa using this
theorem takes_FSR (l : List FSR) (n : Nat) : (l.flatMap FSR.enc).take (n * 2) = (l.take n).flatMap FSR.enc := take_flat (enc := FSR.enc) (k := 2) (fun _ => rfl) l n
theorem drops_FSR (l : List FSR) (n : Nat) : (l.flatMap FSR.enc).drop (n * 2) = (l.drop n).flatMap FSR.enc := drop_flat (enc := FSR.enc) (k := 2) (fun _ => rfl) l n
theorem FSR.eq_iff (a b : FSR) : a = b ↔ a.l = b.l ∧ a.next = b.next := by cases a; cases b; simp
def FSR.wf (c : FSR) : Prop := (∀ x ∈ c.l, x.wf) ∧ inI c.next

structure ChangeR where
  ino : Int
  gone : Bool
  node : NodeR
  deriving DecidableEq
def ChangeR.enc (c : ChangeR) : List AV := [I c.ino, B c.gone] ++ c.node.enc
def ChangeR.zero : ChangeR := ⟨0, false, .zero⟩
@[simp] theorem ChangeR.neat (c : ChangeR) : c.enc.all neat = true := by simp [ChangeR.enc]
@[simp] theorem all_ChangeR (l : List ChangeR) : (l.flatMap ChangeR.enc).all neat = true := all_flat ChangeR.neat l
@[simp] theorem ChangeR.one (c : ChangeR) : c.enc.all isOne = true := rfl
@[simp high] theorem one_ChangeR (l : List ChangeR) : (l.flatMap ChangeR.enc).all isOne = true := one_flat ChangeR.one l
@[simp high] theorem lenc_ChangeR (x : ChangeR) : x.enc.length = 7 := rfl
@[simp high] theorem takec_ChangeR (x : ChangeR) : x.enc.take 7 = x.enc := List.take_of_length_le (Nat.le_refl _)
@[simp high] theorem len_ChangeR (l : List ChangeR) : (l.flatMap ChangeR.enc).length = l.length * 7 := len_flat (enc := ChangeR.enc) (k := 7) (fun _ => rfl) l
@[simp high] theorem take_ChangeR (l : List ChangeR) : (l.flatMap ChangeR.enc).take (l.length * 7) = l.flatMap ChangeR.enc := take_all (enc := ChangeR.enc) (k := 7) (fun _ => rfl) l
@[simp high] theorem at_ChangeR {l : List ChangeR} {i : Nat} (h : i < l.length) : List.take 7 (List.drop (i * 7) (l.flatMap ChangeR.enc)) = (l[i]).enc := cells_at (enc := ChangeR.enc) (k := 7) (fun _ => rfl) l i l[i] (by simp [h])
@[simp high] theorem at0_ChangeR {l : List ChangeR} (h : 0 < l.length) : List.take 7 (l.flatMap ChangeR.enc) = (l[0]).enc := by have := at_ChangeR (l := l) h; simpa using this
@[simp high] theorem at1_ChangeR {l : List ChangeR} (h : 1 < l.length) : List.take 7 (List.drop 7 (l.flatMap ChangeR.enc)) = (l[1]).enc := by have := at_ChangeR (l := l) h; simpa using this
theorem takes_ChangeR (l : List ChangeR) (n : Nat) : (l.flatMap ChangeR.enc).take (n * 7) = (l.take n).flatMap ChangeR.enc := take_flat (enc := ChangeR.enc) (k := 7) (fun _ => rfl) l n
theorem drops_ChangeR (l : List ChangeR) (n : Nat) : (l.flatMap ChangeR.enc).drop (n * 7) = (l.drop n).flatMap ChangeR.enc := drop_flat (enc := ChangeR.enc) (k := 7) (fun _ => rfl) l n
theorem ChangeR.eq_iff (a b : ChangeR) : a = b ↔ a.ino = b.ino ∧ a.gone = b.gone ∧ a.node = b.node := by cases a; cases b; simp
def ChangeR.wf (c : ChangeR) : Prop := inI c.ino ∧ c.node.wf

structure VerR where
  stamp : Int
  gone : Bool
  node : NodeR
  deriving DecidableEq
def VerR.enc (c : VerR) : List AV := [I c.stamp, B c.gone] ++ c.node.enc
def VerR.zero : VerR := ⟨0, false, .zero⟩
@[simp] theorem VerR.neat (c : VerR) : c.enc.all neat = true := by simp [VerR.enc]
@[simp] theorem all_VerR (l : List VerR) : (l.flatMap VerR.enc).all neat = true := all_flat VerR.neat l
@[simp] theorem VerR.one (c : VerR) : c.enc.all isOne = true := rfl
@[simp high] theorem one_VerR (l : List VerR) : (l.flatMap VerR.enc).all isOne = true := one_flat VerR.one l
@[simp high] theorem lenc_VerR (x : VerR) : x.enc.length = 7 := rfl
@[simp high] theorem takec_VerR (x : VerR) : x.enc.take 7 = x.enc := List.take_of_length_le (Nat.le_refl _)
@[simp high] theorem len_VerR (l : List VerR) : (l.flatMap VerR.enc).length = l.length * 7 := len_flat (enc := VerR.enc) (k := 7) (fun _ => rfl) l
@[simp high] theorem take_VerR (l : List VerR) : (l.flatMap VerR.enc).take (l.length * 7) = l.flatMap VerR.enc := take_all (enc := VerR.enc) (k := 7) (fun _ => rfl) l
@[simp high] theorem at_VerR {l : List VerR} {i : Nat} (h : i < l.length) : List.take 7 (List.drop (i * 7) (l.flatMap VerR.enc)) = (l[i]).enc := cells_at (enc := VerR.enc) (k := 7) (fun _ => rfl) l i l[i] (by simp [h])
@[simp high] theorem at0_VerR {l : List VerR} (h : 0 < l.length) : List.take 7 (l.flatMap VerR.enc) = (l[0]).enc := by have := at_VerR (l := l) h; simpa using this
@[simp high] theorem at1_VerR {l : List VerR} (h : 1 < l.length) : List.take 7 (List.drop 7 (l.flatMap VerR.enc)) = (l[1]).enc := by have := at_VerR (l := l) h; simpa using this
theorem takes_VerR (l : List VerR) (n : Nat) : (l.flatMap VerR.enc).take (n * 7) = (l.take n).flatMap VerR.enc := take_flat (enc := VerR.enc) (k := 7) (fun _ => rfl) l n
theorem drops_VerR (l : List VerR) (n : Nat) : (l.flatMap VerR.enc).drop (n * 7) = (l.drop n).flatMap VerR.enc := drop_flat (enc := VerR.enc) (k := 7) (fun _ => rfl) l n
theorem VerR.eq_iff (a b : VerR) : a = b ↔ a.stamp = b.stamp ∧ a.gone = b.gone ∧ a.node = b.node := by cases a; cases b; simp
def VerR.wf (c : VerR) : Prop := inI c.stamp ∧ c.node.wf

structure ChainR where
  ino : Int
  l : List VerR
  deriving DecidableEq
def ChainR.enc (c : ChainR) : List AV := [I c.ino, encL VerR.enc c.l]
def ChainR.zero : ChainR := ⟨0, []⟩
@[simp] theorem ChainR.neat (c : ChainR) : c.enc.all neat = true := by simp [ChainR.enc]
@[simp] theorem all_ChainR (l : List ChainR) : (l.flatMap ChainR.enc).all neat = true := all_flat ChainR.neat l
@[simp] theorem ChainR.one (c : ChainR) : c.enc.all isOne = true := rfl
@[simp high] theorem one_ChainR (l : List ChainR) : (l.flatMap ChainR.enc).all isOne = true := one_flat ChainR.one l
@[simp high] theorem lenc_ChainR (x : ChainR) : x.enc.length = 2 := rfl
@[simp high] theorem takec_ChainR (x : ChainR) : x.enc.take 2 = x.enc := List.take_of_length_le (Nat.le_refl _)
@[simp high] theorem len_ChainR (l : List ChainR) : (l.flatMap ChainR.enc).length = l.length * 2 := len_flat (enc := ChainR.enc) (k := 2) (fun _ => rfl) l
@[simp high] theorem take_ChainR (l : List ChainR) : (l.flatMap ChainR.enc).take (l.length * 2) = l.flatMap ChainR.enc := take_all (enc := ChainR.enc) (k := 2) (fun _ => rfl) l
@[simp high] theorem at_ChainR {l : List ChainR} {i : Nat} (h : i < l.length) : List.take 2 (List.drop (i * 2) (l.flatMap ChainR.enc)) = (l[i]).enc := cells_at (enc := ChainR.enc) (k := 2) (fun _ => rfl) l i l[i] (by simp [h])
@[simp high] theorem at0_ChainR {l : List ChainR} (h : 0 < l.length) : List.take 2 (l.flatMap ChainR.enc) = (l[0]).enc := by have := at_ChainR (l := l) h; simpa using this
@[simp high] theorem at1_ChainR {l : List ChainR} (h : 1 < l.length) : List.take 2 (List.drop 2 (l.flatMap ChainR.enc)) = (l[1]).enc := by have := at_ChainR (l := l) h; simpa using this
theorem takes_ChainR (l : List ChainR) (n : Nat) : (l.flatMap ChainR.enc).take (n * 2) = (l.take n).flatMap ChainR.enc := take_flat (enc := ChainR.enc) (k := 2) (fun _ => rfl) l n
theorem drops_ChainR (l : List ChainR) (n : Nat) : (l.flatMap ChainR.enc).drop (n * 2) = (l.drop n).flatMap ChainR.enc := drop_flat (enc := ChainR.enc) (k := 2) (fun _ => rfl) l n
theorem ChainR.eq_iff (a b : ChainR) : a = b ↔ a.ino = b.ino ∧ a.l = b.l := by cases a; cases b; simp
def ChainR.wf (c : ChainR) : Prop := inI c.ino ∧ (∀ x ∈ c.l, x.wf)

structure CountR where
  stamp : Int
  next : Int
  deriving DecidableEq
def CountR.enc (c : CountR) : List AV := [I c.stamp, I c.next]
def CountR.zero : CountR := ⟨0, 0⟩
@[simp] theorem CountR.neat (c : CountR) : c.enc.all neat = true := by simp [CountR.enc]
@[simp] theorem all_CountR (l : List CountR) : (l.flatMap CountR.enc).all neat = true := all_flat CountR.neat l
@[simp] theorem CountR.one (c : CountR) : c.enc.all isOne = true := rfl
@[simp high] theorem one_CountR (l : List CountR) : (l.flatMap CountR.enc).all isOne = true := one_flat CountR.one l
@[simp high] theorem lenc_CountR (x : CountR) : x.enc.length = 2 := rfl
@[simp high] theorem takec_CountR (x : CountR) : x.enc.take 2 = x.enc := List.take_of_length_le (Nat.le_refl _)
@[simp high] theorem len_CountR (l : List CountR) : (l.flatMap CountR.enc).length = l.length * 2 := len_flat (enc := CountR.enc) (k := 2) (fun _ => rfl) l
@[simp high] theorem take_CountR (l : List CountR) : (l.flatMap CountR.enc).take (l.length * 2) = l.flatMap CountR.enc := take_all (enc := CountR.enc) (k := 2) (fun _ => rfl) l
@[simp high] theorem at_CountR {l : List CountR} {i : Nat} (h : i < l.length) : List.take 2 (List.drop (i * 2) (l.flatMap CountR.enc)) = (l[i]).enc := cells_at (enc := CountR.enc) (k := 2) (fun _ => rfl) l i l[i] (by simp [h])
@[simp high] theorem at0_CountR {l : List CountR} (h : 0 < l.length) : List.take 2 (l.flatMap CountR.enc) = (l[0]).enc := by have := at_CountR (l := l) h; simpa using this
@[simp high] theorem at1_CountR {l : List CountR} (h : 1 < l.length) : List.take 2 (List.drop 2 (l.flatMap CountR.enc)) = (l[1]).enc := by have := at_CountR (l := l) h; simpa using this
theorem takes_CountR (l : List CountR) (n : Nat) : (l.flatMap CountR.enc).take (n * 2) = (l.take n).flatMap CountR.enc := take_flat (enc := CountR.enc) (k := 2) (fun _ => rfl) l n
theorem drops_CountR (l : List CountR) (n : Nat) : (l.flatMap CountR.enc).drop (n * 2) = (l.drop n).flatMap CountR.enc := drop_flat (enc := CountR.enc) (k := 2) (fun _ => rfl) l n
theorem CountR.eq_iff (a b : CountR) : a = b ↔ a.stamp = b.stamp ∧ a.next = b.next := by cases a; cases b; simp
def CountR.wf (c : CountR) : Prop := inI c.stamp ∧ inI c.next

structure StoreR where
  l : List ChainR
  nexts : List CountR
  stamp : Int
  deriving DecidableEq
def StoreR.enc (c : StoreR) : List AV := [encL ChainR.enc c.l, encL CountR.enc c.nexts, I c.stamp]
def StoreR.zero : StoreR := ⟨[], [], 0⟩
@[simp] theorem StoreR.neat (c : StoreR) : c.enc.all neat = true := by simp [StoreR.enc]
@[simp] theorem all_StoreR (l : List StoreR) : (l.flatMap StoreR.enc).all neat = true := all_flat StoreR.neat l
@[simp] theorem StoreR.one (c : StoreR) : c.enc.all isOne = true := rfl
@[simp high] theorem one_StoreR (l : List StoreR) : (l.flatMap StoreR.enc).all isOne = true := one_flat StoreR.one l
@[simp high] theorem lenc_StoreR (x : StoreR) : x.enc.length = 3 := rfl
@[simp high] theorem takec_StoreR (x : StoreR) : x.enc.take 3 = x.enc := List.take_of_length_le (Nat.le_refl _)
@[simp high] theorem len_StoreR (l : List StoreR) : (l.flatMap StoreR.enc).length = l.length * 3 := len_flat (enc := StoreR.enc) (k := 3) (fun _ => rfl) l
@[simp high] theorem take_StoreR (l : List StoreR) : (l.flatMap StoreR.enc).take (l.length * 3) = l.flatMap StoreR.enc := take_all (enc := StoreR.enc) (k := 3) (fun _ => rfl) l
@[simp high] theorem at_StoreR {l : List StoreR} {i : Nat} (h : i < l.length) : List.take 3 (List.drop (i * 3) (l.flatMap StoreR.enc)) = (l[i]).enc := cells_at (enc := StoreR.enc) (k := 3) (fun _ => rfl) l i l[i] (by simp [h])
@[simp high] theorem at0_StoreR {l : List StoreR} (h : 0 < l.length) : List.take 3 (l.flatMap StoreR.enc) = (l[0]).enc := by have := at_StoreR (l := l) h; simpa using this
@[simp high] theorem at1_StoreR {l : List StoreR} (h : 1 < l.length) : List.take 3 (List.drop 3 (l.flatMap StoreR.enc)) = (l[1]).enc := by have := at_StoreR (l := l) h; simpa using this
theorem takes_StoreR (l : List StoreR) (n : Nat) : (l.flatMap StoreR.enc).take (n * 3) = (l.take n).flatMap StoreR.enc := take_flat (enc := StoreR.enc) (k := 3) (fun _ => rfl) l n
theorem drops_StoreR (l : List StoreR) (n : Nat) : (l.flatMap StoreR.enc).drop (n * 3) = (l.drop n).flatMap StoreR.enc := drop_flat (enc := StoreR.enc) (k := 3) (fun _ => rfl) l n
theorem StoreR.eq_iff (a b : StoreR) : a = b ↔ a.l = b.l ∧ a.nexts = b.nexts ∧ a.stamp = b.stamp := by cases a; cases b; simp
def StoreR.wf (c : StoreR) : Prop := (∀ x ∈ c.l, x.wf) ∧ (∀ x ∈ c.nexts, x.wf) ∧ inI c.stamp

structure TxnR where
  stamp : Int
  was : FSR
  now : FSR
  looks : List Int
  deriving DecidableEq
def TxnR.enc (c : TxnR) : List AV := [I c.stamp] ++ c.was.enc ++ c.now.enc ++ [enc1 I c.looks]
def TxnR.zero : TxnR := ⟨0, .zero, .zero, []⟩
@[simp] theorem TxnR.neat (c : TxnR) : c.enc.all neat = true := by simp [TxnR.enc]
@[simp] theorem all_TxnR (l : List TxnR) : (l.flatMap TxnR.enc).all neat = true := all_flat TxnR.neat l
@[simp] theorem TxnR.one (c : TxnR) : c.enc.all isOne = true := rfl
@[simp high] theorem one_TxnR (l : List TxnR) : (l.flatMap TxnR.enc).all isOne = true := one_flat TxnR.one l
@[simp high] theorem lenc_TxnR (x : TxnR) : x.enc.length = 6 := rfl
@[simp high] theorem takec_TxnR (x : TxnR) : x.enc.take 6 = x.enc := List.take_of_length_le (Nat.le_refl _)
@[simp high] theorem len_TxnR (l : List TxnR) : (l.flatMap TxnR.enc).length = l.length * 6 := len_flat (enc := TxnR.enc) (k := 6) (fun _ => rfl) l
@[simp high] theorem take_TxnR (l : List TxnR) : (l.flatMap TxnR.enc).take (l.length * 6) = l.flatMap TxnR.enc := take_all (enc := TxnR.enc) (k := 6) (fun _ => rfl) l
@[simp high] theorem at_TxnR {l : List TxnR} {i : Nat} (h : i < l.length) : List.take 6 (List.drop (i * 6) (l.flatMap TxnR.enc)) = (l[i]).enc := cells_at (enc := TxnR.enc) (k := 6) (fun _ => rfl) l i l[i] (by simp [h])
@[simp high] theorem at0_TxnR {l : List TxnR} (h : 0 < l.length) : List.take 6 (l.flatMap TxnR.enc) = (l[0]).enc := by have := at_TxnR (l := l) h; simpa using this
@[simp high] theorem at1_TxnR {l : List TxnR} (h : 1 < l.length) : List.take 6 (List.drop 6 (l.flatMap TxnR.enc)) = (l[1]).enc := by have := at_TxnR (l := l) h; simpa using this
theorem takes_TxnR (l : List TxnR) (n : Nat) : (l.flatMap TxnR.enc).take (n * 6) = (l.take n).flatMap TxnR.enc := take_flat (enc := TxnR.enc) (k := 6) (fun _ => rfl) l n
theorem drops_TxnR (l : List TxnR) (n : Nat) : (l.flatMap TxnR.enc).drop (n * 6) = (l.drop n).flatMap TxnR.enc := drop_flat (enc := TxnR.enc) (k := 6) (fun _ => rfl) l n
theorem TxnR.eq_iff (a b : TxnR) : a = b ↔ a.stamp = b.stamp ∧ a.was = b.was ∧ a.now = b.now ∧ a.looks = b.looks := by cases a; cases b; simp
def TxnR.wf (c : TxnR) : Prop := inI c.stamp ∧ c.was.wf ∧ c.now.wf ∧ (∀ x ∈ c.looks, inI x)

structure DecisionR where
  seq : Int
  yes : Bool
  deriving DecidableEq
def DecisionR.enc (c : DecisionR) : List AV := [I c.seq, B c.yes]
def DecisionR.zero : DecisionR := ⟨0, false⟩
@[simp] theorem DecisionR.neat (c : DecisionR) : c.enc.all neat = true := by simp [DecisionR.enc]
@[simp] theorem all_DecisionR (l : List DecisionR) : (l.flatMap DecisionR.enc).all neat = true := all_flat DecisionR.neat l
@[simp] theorem DecisionR.one (c : DecisionR) : c.enc.all isOne = true := rfl
@[simp high] theorem one_DecisionR (l : List DecisionR) : (l.flatMap DecisionR.enc).all isOne = true := one_flat DecisionR.one l
@[simp high] theorem lenc_DecisionR (x : DecisionR) : x.enc.length = 2 := rfl
@[simp high] theorem takec_DecisionR (x : DecisionR) : x.enc.take 2 = x.enc := List.take_of_length_le (Nat.le_refl _)
@[simp high] theorem len_DecisionR (l : List DecisionR) : (l.flatMap DecisionR.enc).length = l.length * 2 := len_flat (enc := DecisionR.enc) (k := 2) (fun _ => rfl) l
@[simp high] theorem take_DecisionR (l : List DecisionR) : (l.flatMap DecisionR.enc).take (l.length * 2) = l.flatMap DecisionR.enc := take_all (enc := DecisionR.enc) (k := 2) (fun _ => rfl) l
@[simp high] theorem at_DecisionR {l : List DecisionR} {i : Nat} (h : i < l.length) : List.take 2 (List.drop (i * 2) (l.flatMap DecisionR.enc)) = (l[i]).enc := cells_at (enc := DecisionR.enc) (k := 2) (fun _ => rfl) l i l[i] (by simp [h])
@[simp high] theorem at0_DecisionR {l : List DecisionR} (h : 0 < l.length) : List.take 2 (l.flatMap DecisionR.enc) = (l[0]).enc := by have := at_DecisionR (l := l) h; simpa using this
@[simp high] theorem at1_DecisionR {l : List DecisionR} (h : 1 < l.length) : List.take 2 (List.drop 2 (l.flatMap DecisionR.enc)) = (l[1]).enc := by have := at_DecisionR (l := l) h; simpa using this
theorem takes_DecisionR (l : List DecisionR) (n : Nat) : (l.flatMap DecisionR.enc).take (n * 2) = (l.take n).flatMap DecisionR.enc := take_flat (enc := DecisionR.enc) (k := 2) (fun _ => rfl) l n
theorem drops_DecisionR (l : List DecisionR) (n : Nat) : (l.flatMap DecisionR.enc).drop (n * 2) = (l.drop n).flatMap DecisionR.enc := drop_flat (enc := DecisionR.enc) (k := 2) (fun _ => rfl) l n
theorem DecisionR.eq_iff (a b : DecisionR) : a = b ↔ a.seq = b.seq ∧ a.yes = b.yes := by cases a; cases b; simp
def DecisionR.wf (c : DecisionR) : Prop := inI c.seq

structure RowR where
  client : Int
  epoch : Int
  done : Int
  l : List DecisionR
  deriving DecidableEq
def RowR.enc (c : RowR) : List AV := [I c.client, I c.epoch, I c.done, encL DecisionR.enc c.l]
def RowR.zero : RowR := ⟨0, 0, 0, []⟩
@[simp] theorem RowR.neat (c : RowR) : c.enc.all neat = true := by simp [RowR.enc]
@[simp] theorem all_RowR (l : List RowR) : (l.flatMap RowR.enc).all neat = true := all_flat RowR.neat l
@[simp] theorem RowR.one (c : RowR) : c.enc.all isOne = true := rfl
@[simp high] theorem one_RowR (l : List RowR) : (l.flatMap RowR.enc).all isOne = true := one_flat RowR.one l
@[simp high] theorem lenc_RowR (x : RowR) : x.enc.length = 4 := rfl
@[simp high] theorem takec_RowR (x : RowR) : x.enc.take 4 = x.enc := List.take_of_length_le (Nat.le_refl _)
@[simp high] theorem len_RowR (l : List RowR) : (l.flatMap RowR.enc).length = l.length * 4 := len_flat (enc := RowR.enc) (k := 4) (fun _ => rfl) l
@[simp high] theorem take_RowR (l : List RowR) : (l.flatMap RowR.enc).take (l.length * 4) = l.flatMap RowR.enc := take_all (enc := RowR.enc) (k := 4) (fun _ => rfl) l
@[simp high] theorem at_RowR {l : List RowR} {i : Nat} (h : i < l.length) : List.take 4 (List.drop (i * 4) (l.flatMap RowR.enc)) = (l[i]).enc := cells_at (enc := RowR.enc) (k := 4) (fun _ => rfl) l i l[i] (by simp [h])
@[simp high] theorem at0_RowR {l : List RowR} (h : 0 < l.length) : List.take 4 (l.flatMap RowR.enc) = (l[0]).enc := by have := at_RowR (l := l) h; simpa using this
@[simp high] theorem at1_RowR {l : List RowR} (h : 1 < l.length) : List.take 4 (List.drop 4 (l.flatMap RowR.enc)) = (l[1]).enc := by have := at_RowR (l := l) h; simpa using this
theorem takes_RowR (l : List RowR) (n : Nat) : (l.flatMap RowR.enc).take (n * 4) = (l.take n).flatMap RowR.enc := take_flat (enc := RowR.enc) (k := 4) (fun _ => rfl) l n
theorem drops_RowR (l : List RowR) (n : Nat) : (l.flatMap RowR.enc).drop (n * 4) = (l.drop n).flatMap RowR.enc := drop_flat (enc := RowR.enc) (k := 4) (fun _ => rfl) l n
theorem RowR.eq_iff (a b : RowR) : a = b ↔ a.client = b.client ∧ a.epoch = b.epoch ∧ a.done = b.done ∧ a.l = b.l := by cases a; cases b; simp
def RowR.wf (c : RowR) : Prop := inI c.client ∧ inI c.epoch ∧ inI c.done ∧ (∀ x ∈ c.l, x.wf)

structure OpenR where
  client : Int
  epoch : Int
  seq : Int
  n : Int
  t : TxnR
  last : ReplyR
  until_ : Int
  deriving DecidableEq
def OpenR.enc (c : OpenR) : List AV := [I c.client, I c.epoch, I c.seq, I c.n] ++ c.t.enc ++ c.last.enc ++ [I c.until_]
def OpenR.zero : OpenR := ⟨0, 0, 0, 0, .zero, ⟨0, 0, 0, 0, .empty, []⟩, 0⟩
@[simp] theorem OpenR.neat (c : OpenR) : c.enc.all neat = true := by simp [OpenR.enc]
@[simp] theorem all_OpenR (l : List OpenR) : (l.flatMap OpenR.enc).all neat = true := all_flat OpenR.neat l
@[simp] theorem OpenR.one (c : OpenR) : c.enc.all isOne = true := rfl
@[simp high] theorem one_OpenR (l : List OpenR) : (l.flatMap OpenR.enc).all isOne = true := one_flat OpenR.one l
@[simp high] theorem lenc_OpenR (x : OpenR) : x.enc.length = 17 := rfl
@[simp high] theorem takec_OpenR (x : OpenR) : x.enc.take 17 = x.enc := List.take_of_length_le (Nat.le_refl _)
@[simp high] theorem len_OpenR (l : List OpenR) : (l.flatMap OpenR.enc).length = l.length * 17 := len_flat (enc := OpenR.enc) (k := 17) (fun _ => rfl) l
@[simp high] theorem take_OpenR (l : List OpenR) : (l.flatMap OpenR.enc).take (l.length * 17) = l.flatMap OpenR.enc := take_all (enc := OpenR.enc) (k := 17) (fun _ => rfl) l
@[simp high] theorem at_OpenR {l : List OpenR} {i : Nat} (h : i < l.length) : List.take 17 (List.drop (i * 17) (l.flatMap OpenR.enc)) = (l[i]).enc := cells_at (enc := OpenR.enc) (k := 17) (fun _ => rfl) l i l[i] (by simp [h])
@[simp high] theorem at0_OpenR {l : List OpenR} (h : 0 < l.length) : List.take 17 (l.flatMap OpenR.enc) = (l[0]).enc := by have := at_OpenR (l := l) h; simpa using this
@[simp high] theorem at1_OpenR {l : List OpenR} (h : 1 < l.length) : List.take 17 (List.drop 17 (l.flatMap OpenR.enc)) = (l[1]).enc := by have := at_OpenR (l := l) h; simpa using this
theorem takes_OpenR (l : List OpenR) (n : Nat) : (l.flatMap OpenR.enc).take (n * 17) = (l.take n).flatMap OpenR.enc := take_flat (enc := OpenR.enc) (k := 17) (fun _ => rfl) l n
theorem drops_OpenR (l : List OpenR) (n : Nat) : (l.flatMap OpenR.enc).drop (n * 17) = (l.drop n).flatMap OpenR.enc := drop_flat (enc := OpenR.enc) (k := 17) (fun _ => rfl) l n
theorem OpenR.eq_iff (a b : OpenR) : a = b ↔ a.client = b.client ∧ a.epoch = b.epoch ∧ a.seq = b.seq ∧ a.n = b.n ∧ a.t = b.t ∧ a.last = b.last ∧ a.until_ = b.until_ := by cases a; cases b; simp
def OpenR.wf (c : OpenR) : Prop := inI c.client ∧ inI c.epoch ∧ inI c.seq ∧ inI c.n ∧ c.t.wf ∧ c.last.wf ∧ inI c.until_

structure HostR where
  s : StoreR
  rows : List RowR
  opens : List OpenR
  now : Int
  lease : Int
  deriving DecidableEq
def HostR.enc (c : HostR) : List AV := c.s.enc ++ [encL RowR.enc c.rows, encL OpenR.enc c.opens, I c.now, I c.lease]
def HostR.zero : HostR := ⟨.zero, [], [], 0, 0⟩
@[simp] theorem HostR.neat (c : HostR) : c.enc.all neat = true := by simp [HostR.enc]
@[simp] theorem all_HostR (l : List HostR) : (l.flatMap HostR.enc).all neat = true := all_flat HostR.neat l
@[simp] theorem HostR.one (c : HostR) : c.enc.all isOne = true := rfl
@[simp high] theorem one_HostR (l : List HostR) : (l.flatMap HostR.enc).all isOne = true := one_flat HostR.one l
@[simp high] theorem lenc_HostR (x : HostR) : x.enc.length = 7 := rfl
@[simp high] theorem takec_HostR (x : HostR) : x.enc.take 7 = x.enc := List.take_of_length_le (Nat.le_refl _)
@[simp high] theorem len_HostR (l : List HostR) : (l.flatMap HostR.enc).length = l.length * 7 := len_flat (enc := HostR.enc) (k := 7) (fun _ => rfl) l
@[simp high] theorem take_HostR (l : List HostR) : (l.flatMap HostR.enc).take (l.length * 7) = l.flatMap HostR.enc := take_all (enc := HostR.enc) (k := 7) (fun _ => rfl) l
@[simp high] theorem at_HostR {l : List HostR} {i : Nat} (h : i < l.length) : List.take 7 (List.drop (i * 7) (l.flatMap HostR.enc)) = (l[i]).enc := cells_at (enc := HostR.enc) (k := 7) (fun _ => rfl) l i l[i] (by simp [h])
@[simp high] theorem at0_HostR {l : List HostR} (h : 0 < l.length) : List.take 7 (l.flatMap HostR.enc) = (l[0]).enc := by have := at_HostR (l := l) h; simpa using this
@[simp high] theorem at1_HostR {l : List HostR} (h : 1 < l.length) : List.take 7 (List.drop 7 (l.flatMap HostR.enc)) = (l[1]).enc := by have := at_HostR (l := l) h; simpa using this
theorem takes_HostR (l : List HostR) (n : Nat) : (l.flatMap HostR.enc).take (n * 7) = (l.take n).flatMap HostR.enc := take_flat (enc := HostR.enc) (k := 7) (fun _ => rfl) l n
theorem drops_HostR (l : List HostR) (n : Nat) : (l.flatMap HostR.enc).drop (n * 7) = (l.drop n).flatMap HostR.enc := drop_flat (enc := HostR.enc) (k := 7) (fun _ => rfl) l n
theorem HostR.eq_iff (a b : HostR) : a = b ↔ a.s = b.s ∧ a.rows = b.rows ∧ a.opens = b.opens ∧ a.now = b.now ∧ a.lease = b.lease := by cases a; cases b; simp
def HostR.wf (c : HostR) : Prop := c.s.wf ∧ (∀ x ∈ c.rows, x.wf) ∧ (∀ x ∈ c.opens, x.wf) ∧ inI c.now ∧ inI c.lease

structure PutR where
  at_ : Int
  s : ByteArray
  deriving DecidableEq
def PutR.enc (c : PutR) : List AV := [I c.at_, S c.s]
def PutR.zero : PutR := ⟨0, .empty⟩
@[simp] theorem PutR.neat (c : PutR) : c.enc.all neat = true := by simp [PutR.enc]
@[simp] theorem all_PutR (l : List PutR) : (l.flatMap PutR.enc).all neat = true := all_flat PutR.neat l
@[simp] theorem PutR.one (c : PutR) : c.enc.all isOne = true := rfl
@[simp high] theorem one_PutR (l : List PutR) : (l.flatMap PutR.enc).all isOne = true := one_flat PutR.one l
@[simp high] theorem lenc_PutR (x : PutR) : x.enc.length = 2 := rfl
@[simp high] theorem takec_PutR (x : PutR) : x.enc.take 2 = x.enc := List.take_of_length_le (Nat.le_refl _)
@[simp high] theorem len_PutR (l : List PutR) : (l.flatMap PutR.enc).length = l.length * 2 := len_flat (enc := PutR.enc) (k := 2) (fun _ => rfl) l
@[simp high] theorem take_PutR (l : List PutR) : (l.flatMap PutR.enc).take (l.length * 2) = l.flatMap PutR.enc := take_all (enc := PutR.enc) (k := 2) (fun _ => rfl) l
@[simp high] theorem at_PutR {l : List PutR} {i : Nat} (h : i < l.length) : List.take 2 (List.drop (i * 2) (l.flatMap PutR.enc)) = (l[i]).enc := cells_at (enc := PutR.enc) (k := 2) (fun _ => rfl) l i l[i] (by simp [h])
@[simp high] theorem at0_PutR {l : List PutR} (h : 0 < l.length) : List.take 2 (l.flatMap PutR.enc) = (l[0]).enc := by have := at_PutR (l := l) h; simpa using this
@[simp high] theorem at1_PutR {l : List PutR} (h : 1 < l.length) : List.take 2 (List.drop 2 (l.flatMap PutR.enc)) = (l[1]).enc := by have := at_PutR (l := l) h; simpa using this
theorem takes_PutR (l : List PutR) (n : Nat) : (l.flatMap PutR.enc).take (n * 2) = (l.take n).flatMap PutR.enc := take_flat (enc := PutR.enc) (k := 2) (fun _ => rfl) l n
theorem drops_PutR (l : List PutR) (n : Nat) : (l.flatMap PutR.enc).drop (n * 2) = (l.drop n).flatMap PutR.enc := drop_flat (enc := PutR.enc) (k := 2) (fun _ => rfl) l n
theorem PutR.eq_iff (a b : PutR) : a = b ↔ a.at_ = b.at_ ∧ a.s = b.s := by cases a; cases b; simp
def PutR.wf (c : PutR) : Prop := inI c.at_ ∧ c.s.size ≤ maxLen

structure DiskR where
  kept : List ByteArray
  w : List PutR
  off : Bool
  deriving DecidableEq
def DiskR.enc (c : DiskR) : List AV := [enc1 S c.kept, encL PutR.enc c.w, B c.off]
def DiskR.zero : DiskR := ⟨[], [], false⟩
@[simp] theorem DiskR.neat (c : DiskR) : c.enc.all neat = true := by simp [DiskR.enc]
@[simp] theorem all_DiskR (l : List DiskR) : (l.flatMap DiskR.enc).all neat = true := all_flat DiskR.neat l
@[simp] theorem DiskR.one (c : DiskR) : c.enc.all isOne = true := rfl
@[simp high] theorem one_DiskR (l : List DiskR) : (l.flatMap DiskR.enc).all isOne = true := one_flat DiskR.one l
@[simp high] theorem lenc_DiskR (x : DiskR) : x.enc.length = 3 := rfl
@[simp high] theorem takec_DiskR (x : DiskR) : x.enc.take 3 = x.enc := List.take_of_length_le (Nat.le_refl _)
@[simp high] theorem len_DiskR (l : List DiskR) : (l.flatMap DiskR.enc).length = l.length * 3 := len_flat (enc := DiskR.enc) (k := 3) (fun _ => rfl) l
@[simp high] theorem take_DiskR (l : List DiskR) : (l.flatMap DiskR.enc).take (l.length * 3) = l.flatMap DiskR.enc := take_all (enc := DiskR.enc) (k := 3) (fun _ => rfl) l
@[simp high] theorem at_DiskR {l : List DiskR} {i : Nat} (h : i < l.length) : List.take 3 (List.drop (i * 3) (l.flatMap DiskR.enc)) = (l[i]).enc := cells_at (enc := DiskR.enc) (k := 3) (fun _ => rfl) l i l[i] (by simp [h])
@[simp high] theorem at0_DiskR {l : List DiskR} (h : 0 < l.length) : List.take 3 (l.flatMap DiskR.enc) = (l[0]).enc := by have := at_DiskR (l := l) h; simpa using this
@[simp high] theorem at1_DiskR {l : List DiskR} (h : 1 < l.length) : List.take 3 (List.drop 3 (l.flatMap DiskR.enc)) = (l[1]).enc := by have := at_DiskR (l := l) h; simpa using this
theorem takes_DiskR (l : List DiskR) (n : Nat) : (l.flatMap DiskR.enc).take (n * 3) = (l.take n).flatMap DiskR.enc := take_flat (enc := DiskR.enc) (k := 3) (fun _ => rfl) l n
theorem drops_DiskR (l : List DiskR) (n : Nat) : (l.flatMap DiskR.enc).drop (n * 3) = (l.drop n).flatMap DiskR.enc := drop_flat (enc := DiskR.enc) (k := 3) (fun _ => rfl) l n
theorem DiskR.eq_iff (a b : DiskR) : a = b ↔ a.kept = b.kept ∧ a.w = b.w ∧ a.off = b.off := by cases a; cases b; simp
def DiskR.wf (c : DiskR) : Prop := (∀ x ∈ c.kept, x.size ≤ maxLen) ∧ (∀ x ∈ c.w, x.wf)

structure RingR where
  from_ : Int
  many : Int
  deriving DecidableEq
def RingR.enc (c : RingR) : List AV := [I c.from_, I c.many]
def RingR.zero : RingR := ⟨0, 0⟩
@[simp] theorem RingR.neat (c : RingR) : c.enc.all neat = true := by simp [RingR.enc]
@[simp] theorem all_RingR (l : List RingR) : (l.flatMap RingR.enc).all neat = true := all_flat RingR.neat l
@[simp] theorem RingR.one (c : RingR) : c.enc.all isOne = true := rfl
@[simp high] theorem one_RingR (l : List RingR) : (l.flatMap RingR.enc).all isOne = true := one_flat RingR.one l
@[simp high] theorem lenc_RingR (x : RingR) : x.enc.length = 2 := rfl
@[simp high] theorem takec_RingR (x : RingR) : x.enc.take 2 = x.enc := List.take_of_length_le (Nat.le_refl _)
@[simp high] theorem len_RingR (l : List RingR) : (l.flatMap RingR.enc).length = l.length * 2 := len_flat (enc := RingR.enc) (k := 2) (fun _ => rfl) l
@[simp high] theorem take_RingR (l : List RingR) : (l.flatMap RingR.enc).take (l.length * 2) = l.flatMap RingR.enc := take_all (enc := RingR.enc) (k := 2) (fun _ => rfl) l
@[simp high] theorem at_RingR {l : List RingR} {i : Nat} (h : i < l.length) : List.take 2 (List.drop (i * 2) (l.flatMap RingR.enc)) = (l[i]).enc := cells_at (enc := RingR.enc) (k := 2) (fun _ => rfl) l i l[i] (by simp [h])
@[simp high] theorem at0_RingR {l : List RingR} (h : 0 < l.length) : List.take 2 (l.flatMap RingR.enc) = (l[0]).enc := by have := at_RingR (l := l) h; simpa using this
@[simp high] theorem at1_RingR {l : List RingR} (h : 1 < l.length) : List.take 2 (List.drop 2 (l.flatMap RingR.enc)) = (l[1]).enc := by have := at_RingR (l := l) h; simpa using this
theorem takes_RingR (l : List RingR) (n : Nat) : (l.flatMap RingR.enc).take (n * 2) = (l.take n).flatMap RingR.enc := take_flat (enc := RingR.enc) (k := 2) (fun _ => rfl) l n
theorem drops_RingR (l : List RingR) (n : Nat) : (l.flatMap RingR.enc).drop (n * 2) = (l.drop n).flatMap RingR.enc := drop_flat (enc := RingR.enc) (k := 2) (fun _ => rfl) l n
theorem RingR.eq_iff (a b : RingR) : a = b ↔ a.from_ = b.from_ ∧ a.many = b.many := by cases a; cases b; simp
def RingR.wf (c : RingR) : Prop := inI c.from_ ∧ inI c.many

structure LogR where
  at_ : Int
  used : Int
  first : Int
  many : Int
  deriving DecidableEq
def LogR.enc (c : LogR) : List AV := [I c.at_, I c.used, U c.first, I c.many]
def LogR.zero : LogR := ⟨0, 0, 0, 0⟩
@[simp] theorem LogR.neat (c : LogR) : c.enc.all neat = true := by simp [LogR.enc]
@[simp] theorem all_LogR (l : List LogR) : (l.flatMap LogR.enc).all neat = true := all_flat LogR.neat l
@[simp] theorem LogR.one (c : LogR) : c.enc.all isOne = true := rfl
@[simp high] theorem one_LogR (l : List LogR) : (l.flatMap LogR.enc).all isOne = true := one_flat LogR.one l
@[simp high] theorem lenc_LogR (x : LogR) : x.enc.length = 4 := rfl
@[simp high] theorem takec_LogR (x : LogR) : x.enc.take 4 = x.enc := List.take_of_length_le (Nat.le_refl _)
@[simp high] theorem len_LogR (l : List LogR) : (l.flatMap LogR.enc).length = l.length * 4 := len_flat (enc := LogR.enc) (k := 4) (fun _ => rfl) l
@[simp high] theorem take_LogR (l : List LogR) : (l.flatMap LogR.enc).take (l.length * 4) = l.flatMap LogR.enc := take_all (enc := LogR.enc) (k := 4) (fun _ => rfl) l
@[simp high] theorem at_LogR {l : List LogR} {i : Nat} (h : i < l.length) : List.take 4 (List.drop (i * 4) (l.flatMap LogR.enc)) = (l[i]).enc := cells_at (enc := LogR.enc) (k := 4) (fun _ => rfl) l i l[i] (by simp [h])
@[simp high] theorem at0_LogR {l : List LogR} (h : 0 < l.length) : List.take 4 (l.flatMap LogR.enc) = (l[0]).enc := by have := at_LogR (l := l) h; simpa using this
@[simp high] theorem at1_LogR {l : List LogR} (h : 1 < l.length) : List.take 4 (List.drop 4 (l.flatMap LogR.enc)) = (l[1]).enc := by have := at_LogR (l := l) h; simpa using this
theorem takes_LogR (l : List LogR) (n : Nat) : (l.flatMap LogR.enc).take (n * 4) = (l.take n).flatMap LogR.enc := take_flat (enc := LogR.enc) (k := 4) (fun _ => rfl) l n
theorem drops_LogR (l : List LogR) (n : Nat) : (l.flatMap LogR.enc).drop (n * 4) = (l.drop n).flatMap LogR.enc := drop_flat (enc := LogR.enc) (k := 4) (fun _ => rfl) l n
theorem LogR.eq_iff (a b : LogR) : a = b ↔ a.at_ = b.at_ ∧ a.used = b.used ∧ a.first = b.first ∧ a.many = b.many := by cases a; cases b; simp
def LogR.wf (c : LogR) : Prop := inI c.at_ ∧ inI c.used ∧ inU c.first ∧ inI c.many

structure KeepR where
  d : DiskR
  l : LogR
  h : HostR
  deriving DecidableEq
def KeepR.enc (c : KeepR) : List AV := c.d.enc ++ c.l.enc ++ c.h.enc
def KeepR.zero : KeepR := ⟨.zero, .zero, .zero⟩
@[simp] theorem KeepR.neat (c : KeepR) : c.enc.all neat = true := by simp [KeepR.enc]
@[simp] theorem all_KeepR (l : List KeepR) : (l.flatMap KeepR.enc).all neat = true := all_flat KeepR.neat l
@[simp] theorem KeepR.one (c : KeepR) : c.enc.all isOne = true := rfl
@[simp high] theorem one_KeepR (l : List KeepR) : (l.flatMap KeepR.enc).all isOne = true := one_flat KeepR.one l
@[simp high] theorem lenc_KeepR (x : KeepR) : x.enc.length = 14 := rfl
@[simp high] theorem takec_KeepR (x : KeepR) : x.enc.take 14 = x.enc := List.take_of_length_le (Nat.le_refl _)
@[simp high] theorem len_KeepR (l : List KeepR) : (l.flatMap KeepR.enc).length = l.length * 14 := len_flat (enc := KeepR.enc) (k := 14) (fun _ => rfl) l
@[simp high] theorem take_KeepR (l : List KeepR) : (l.flatMap KeepR.enc).take (l.length * 14) = l.flatMap KeepR.enc := take_all (enc := KeepR.enc) (k := 14) (fun _ => rfl) l
@[simp high] theorem at_KeepR {l : List KeepR} {i : Nat} (h : i < l.length) : List.take 14 (List.drop (i * 14) (l.flatMap KeepR.enc)) = (l[i]).enc := cells_at (enc := KeepR.enc) (k := 14) (fun _ => rfl) l i l[i] (by simp [h])
@[simp high] theorem at0_KeepR {l : List KeepR} (h : 0 < l.length) : List.take 14 (l.flatMap KeepR.enc) = (l[0]).enc := by have := at_KeepR (l := l) h; simpa using this
@[simp high] theorem at1_KeepR {l : List KeepR} (h : 1 < l.length) : List.take 14 (List.drop 14 (l.flatMap KeepR.enc)) = (l[1]).enc := by have := at_KeepR (l := l) h; simpa using this
theorem takes_KeepR (l : List KeepR) (n : Nat) : (l.flatMap KeepR.enc).take (n * 14) = (l.take n).flatMap KeepR.enc := take_flat (enc := KeepR.enc) (k := 14) (fun _ => rfl) l n
theorem drops_KeepR (l : List KeepR) (n : Nat) : (l.flatMap KeepR.enc).drop (n * 14) = (l.drop n).flatMap KeepR.enc := drop_flat (enc := KeepR.enc) (k := 14) (fun _ => rfl) l n
theorem KeepR.eq_iff (a b : KeepR) : a = b ↔ a.d = b.d ∧ a.l = b.l ∧ a.h = b.h := by cases a; cases b; simp
def KeepR.wf (c : KeepR) : Prop := c.d.wf ∧ c.l.wf ∧ c.h.wf

structure NetR where
  up : List ByteArray
  down : List ByteArray
  deriving DecidableEq
def NetR.enc (c : NetR) : List AV := [enc1 S c.up, enc1 S c.down]
def NetR.zero : NetR := ⟨[], []⟩
@[simp] theorem NetR.neat (c : NetR) : c.enc.all neat = true := by simp [NetR.enc]
@[simp] theorem all_NetR (l : List NetR) : (l.flatMap NetR.enc).all neat = true := all_flat NetR.neat l
@[simp] theorem NetR.one (c : NetR) : c.enc.all isOne = true := rfl
@[simp high] theorem one_NetR (l : List NetR) : (l.flatMap NetR.enc).all isOne = true := one_flat NetR.one l
@[simp high] theorem lenc_NetR (x : NetR) : x.enc.length = 2 := rfl
@[simp high] theorem takec_NetR (x : NetR) : x.enc.take 2 = x.enc := List.take_of_length_le (Nat.le_refl _)
@[simp high] theorem len_NetR (l : List NetR) : (l.flatMap NetR.enc).length = l.length * 2 := len_flat (enc := NetR.enc) (k := 2) (fun _ => rfl) l
@[simp high] theorem take_NetR (l : List NetR) : (l.flatMap NetR.enc).take (l.length * 2) = l.flatMap NetR.enc := take_all (enc := NetR.enc) (k := 2) (fun _ => rfl) l
@[simp high] theorem at_NetR {l : List NetR} {i : Nat} (h : i < l.length) : List.take 2 (List.drop (i * 2) (l.flatMap NetR.enc)) = (l[i]).enc := cells_at (enc := NetR.enc) (k := 2) (fun _ => rfl) l i l[i] (by simp [h])
@[simp high] theorem at0_NetR {l : List NetR} (h : 0 < l.length) : List.take 2 (l.flatMap NetR.enc) = (l[0]).enc := by have := at_NetR (l := l) h; simpa using this
@[simp high] theorem at1_NetR {l : List NetR} (h : 1 < l.length) : List.take 2 (List.drop 2 (l.flatMap NetR.enc)) = (l[1]).enc := by have := at_NetR (l := l) h; simpa using this
theorem takes_NetR (l : List NetR) (n : Nat) : (l.flatMap NetR.enc).take (n * 2) = (l.take n).flatMap NetR.enc := take_flat (enc := NetR.enc) (k := 2) (fun _ => rfl) l n
theorem drops_NetR (l : List NetR) (n : Nat) : (l.flatMap NetR.enc).drop (n * 2) = (l.drop n).flatMap NetR.enc := drop_flat (enc := NetR.enc) (k := 2) (fun _ => rfl) l n
theorem NetR.eq_iff (a b : NetR) : a = b ↔ a.up = b.up ∧ a.down = b.down := by cases a; cases b; simp
def NetR.wf (c : NetR) : Prop := (∀ x ∈ c.up, x.size ≤ maxLen) ∧ (∀ x ∈ c.down, x.size ≤ maxLen)

structure WorldR where
  k : KeepR
  l : List ClientR
  n : NetR
  lease : Int
  deriving DecidableEq
def WorldR.enc (c : WorldR) : List AV := c.k.enc ++ [encL ClientR.enc c.l] ++ c.n.enc ++ [I c.lease]
def WorldR.zero : WorldR := ⟨.zero, [], .zero, 0⟩
@[simp] theorem WorldR.neat (c : WorldR) : c.enc.all neat = true := by simp [WorldR.enc]
@[simp] theorem all_WorldR (l : List WorldR) : (l.flatMap WorldR.enc).all neat = true := all_flat WorldR.neat l
@[simp] theorem WorldR.one (c : WorldR) : c.enc.all isOne = true := rfl
@[simp high] theorem one_WorldR (l : List WorldR) : (l.flatMap WorldR.enc).all isOne = true := one_flat WorldR.one l
@[simp high] theorem lenc_WorldR (x : WorldR) : x.enc.length = 18 := rfl
@[simp high] theorem takec_WorldR (x : WorldR) : x.enc.take 18 = x.enc := List.take_of_length_le (Nat.le_refl _)
@[simp high] theorem len_WorldR (l : List WorldR) : (l.flatMap WorldR.enc).length = l.length * 18 := len_flat (enc := WorldR.enc) (k := 18) (fun _ => rfl) l
@[simp high] theorem take_WorldR (l : List WorldR) : (l.flatMap WorldR.enc).take (l.length * 18) = l.flatMap WorldR.enc := take_all (enc := WorldR.enc) (k := 18) (fun _ => rfl) l
@[simp high] theorem at_WorldR {l : List WorldR} {i : Nat} (h : i < l.length) : List.take 18 (List.drop (i * 18) (l.flatMap WorldR.enc)) = (l[i]).enc := cells_at (enc := WorldR.enc) (k := 18) (fun _ => rfl) l i l[i] (by simp [h])
@[simp high] theorem at0_WorldR {l : List WorldR} (h : 0 < l.length) : List.take 18 (l.flatMap WorldR.enc) = (l[0]).enc := by have := at_WorldR (l := l) h; simpa using this
@[simp high] theorem at1_WorldR {l : List WorldR} (h : 1 < l.length) : List.take 18 (List.drop 18 (l.flatMap WorldR.enc)) = (l[1]).enc := by have := at_WorldR (l := l) h; simpa using this
theorem takes_WorldR (l : List WorldR) (n : Nat) : (l.flatMap WorldR.enc).take (n * 18) = (l.take n).flatMap WorldR.enc := take_flat (enc := WorldR.enc) (k := 18) (fun _ => rfl) l n
theorem drops_WorldR (l : List WorldR) (n : Nat) : (l.flatMap WorldR.enc).drop (n * 18) = (l.drop n).flatMap WorldR.enc := drop_flat (enc := WorldR.enc) (k := 18) (fun _ => rfl) l n
theorem WorldR.eq_iff (a b : WorldR) : a = b ↔ a.k = b.k ∧ a.l = b.l ∧ a.n = b.n ∧ a.lease = b.lease := by cases a; cases b; simp
def WorldR.wf (c : WorldR) : Prop := c.k.wf ∧ (∀ x ∈ c.l, x.wf) ∧ c.n.wf ∧ inI c.lease

structure StepR where
  kind : Int
  i : Int
  j : Int
  keep : List Bool
  by_ : Int
  deriving DecidableEq
def StepR.enc (c : StepR) : List AV := [I c.kind, I c.i, I c.j, enc1 B c.keep, Y8 c.by_]
def StepR.zero : StepR := ⟨0, 0, 0, [], 0⟩
@[simp] theorem StepR.neat (c : StepR) : c.enc.all neat = true := by simp [StepR.enc]
@[simp] theorem all_StepR (l : List StepR) : (l.flatMap StepR.enc).all neat = true := all_flat StepR.neat l
@[simp] theorem StepR.one (c : StepR) : c.enc.all isOne = true := rfl
@[simp high] theorem one_StepR (l : List StepR) : (l.flatMap StepR.enc).all isOne = true := one_flat StepR.one l
@[simp high] theorem lenc_StepR (x : StepR) : x.enc.length = 5 := rfl
@[simp high] theorem takec_StepR (x : StepR) : x.enc.take 5 = x.enc := List.take_of_length_le (Nat.le_refl _)
@[simp high] theorem len_StepR (l : List StepR) : (l.flatMap StepR.enc).length = l.length * 5 := len_flat (enc := StepR.enc) (k := 5) (fun _ => rfl) l
@[simp high] theorem take_StepR (l : List StepR) : (l.flatMap StepR.enc).take (l.length * 5) = l.flatMap StepR.enc := take_all (enc := StepR.enc) (k := 5) (fun _ => rfl) l
@[simp high] theorem at_StepR {l : List StepR} {i : Nat} (h : i < l.length) : List.take 5 (List.drop (i * 5) (l.flatMap StepR.enc)) = (l[i]).enc := cells_at (enc := StepR.enc) (k := 5) (fun _ => rfl) l i l[i] (by simp [h])
@[simp high] theorem at0_StepR {l : List StepR} (h : 0 < l.length) : List.take 5 (l.flatMap StepR.enc) = (l[0]).enc := by have := at_StepR (l := l) h; simpa using this
@[simp high] theorem at1_StepR {l : List StepR} (h : 1 < l.length) : List.take 5 (List.drop 5 (l.flatMap StepR.enc)) = (l[1]).enc := by have := at_StepR (l := l) h; simpa using this
theorem takes_StepR (l : List StepR) (n : Nat) : (l.flatMap StepR.enc).take (n * 5) = (l.take n).flatMap StepR.enc := take_flat (enc := StepR.enc) (k := 5) (fun _ => rfl) l n
theorem drops_StepR (l : List StepR) (n : Nat) : (l.flatMap StepR.enc).drop (n * 5) = (l.drop n).flatMap StepR.enc := drop_flat (enc := StepR.enc) (k := 5) (fun _ => rfl) l n
theorem StepR.eq_iff (a b : StepR) : a = b ↔ a.kind = b.kind ∧ a.i = b.i ∧ a.j = b.j ∧ a.keep = b.keep ∧ a.by_ = b.by_ := by cases a; cases b; simp
def StepR.wf (c : StepR) : Prop := inI c.kind ∧ inI c.i ∧ inI c.j ∧ inY c.by_
end Go.Cx
