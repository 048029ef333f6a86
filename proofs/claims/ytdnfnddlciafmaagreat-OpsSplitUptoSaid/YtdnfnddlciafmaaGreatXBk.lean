import Derived.Test.YtdnfnddlciafmaaGreatXBg
import Derived.Test.YtdnfnddlciafmaaGreatXBh
set_option linter.unusedVariables false
set_option linter.unusedSimpArgs false
namespace Go.Cx
def findE (l : List EntryR) (s : ByteArray) : Int × Bool := match l.find? (fun x => decide (x.name = s)) with
  | some x => (x.ino, true)
  | none => (0, false)
def insE (l : List EntryR) (s : ByteArray) (ino : Int) : List EntryR := (l.takeWhile fun x => strLt x.name s) ++ ⟨s, ino⟩ :: (l.dropWhile fun x => strLt x.name s)
def outE (l : List EntryR) (s : ByteArray) : List EntryR := l.filter fun x => !decide (x.name = s)
def enterE (l : List EntryR) (s : ByteArray) (ino : Int) : List EntryR × Int :=
  if checkS s ≠ 0 then (l, checkS s) else if ino < 1 then (l, 1) else if (findE l s).2 = true then (l, 7) else if 256 ≤ l.length then (l, 12) else (insE l s ino, 0)
def leaveE (l : List EntryR) (s : ByteArray) : List EntryR × Int × Int := if (findE l s).2 = true then (outE l s, (findE l s).1, 0) else (l, 0, 6)
def risesE : List EntryR → Bool
  | [] => true
  | [_] => true
  | a :: b :: l => strLt a.name b.name && risesE (b :: l)
def readT (s : List UInt8) (at_ many : Int) : List UInt8 × Int :=
  if at_ < 0 ∨ 1099511627776 < at_ ∨ many < 0 ∨ 1099511627776 - at_ < many then ([], 1) else ((s.drop at_.toNat).take many.toNat, 0)
def overL (s : List UInt8) (k : Nat) (t : List UInt8) : List UInt8 := (s ++ List.replicate (k - s.length) 0).take k ++ t ++ s.drop (k + t.length)
def writeT (s : List UInt8) (at_ : Int) (t : List UInt8) : List UInt8 × Int :=
  if at_ < 0 ∨ 1099511627776 - t.length < at_ then (s, 1) else if 4096 < at_ + t.length then (s, 5) else if t = [] then (s, 0) else (overL s at_.toNat t, 0)
def cutT (s : List UInt8) (many : Int) : List UInt8 × Int :=
  if many < 0 ∨ 1099511627776 < many then (s, 1) else if 4096 < many then (s, 5) else (s.take many.toNat ++ List.replicate (many.toNat - s.length) 0, 0)
def dirD (f : FSR) (d : Int) : NodeR × Int := if (findB f.l d).2 = false then (.zero, 6) else if (findB f.l d).1.kind ≠ 2 then (.zero, 8) else ((findB f.l d).1, 0)
def lookD (f : FSR) (d : Int) (s : ByteArray) : NodeR × Int :=
  if (dirD f d).2 ≠ 0 then (.zero, (dirD f d).2) else if checkS s ≠ 0 then (.zero, checkS s) else
  if (findE (dirD f d).1.l s).2 = false then (.zero, 6) else if (findB f.l (findE (dirD f d).1.l s).1).2 = false then (.zero, 6) else ((findB f.l (findE (dirD f d).1.l s).1).1, 0)
def enteredD (f : FSR) (dir : Int) (s : ByteArray) (ino : Int) : FSR := putB f { (findB f.l dir).1 with l := (enterE (findB f.l dir).1.l s ino).1 }
def leftD (f : FSR) (dir : Int) (s : ByteArray) : FSR := putB f { (findB f.l dir).1 with l := (leaveE (findB f.l dir).1.l s).1 }
def lessD (f : FSR) (ino : Int) : FSR := if (findB f.l ino).1.links ≤ 1 then outF f ino else putB f { (findB f.l ino).1 with links := (findB f.l ino).1.links - 1 }
def newN (f : FSR) (n : NodeR) : NodeR := { n with ino := f.next, links := 1 }
def addD (f : FSR) (dir : Int) (s : ByteArray) (n : NodeR) : FSR × Int :=
  if (dirD f dir).2 ≠ 0 then (f, (dirD f dir).2) else if checkS s ≠ 0 then (f, checkS s) else if (findE (dirD f dir).1.l s).2 = true then (f, 7) else
  if 256 ≤ f.l.length ∨ 256 ≤ (dirD f dir).1.l.length then (f, 12) else if nodeOk (newN f n) = false ∨ 0 < n.l.length then (f, 1) else
  (putB (enteredD f dir s f.next) (newN f n), 0)
def giveD (f : FSR) (dir : Int) (s : ByteArray) (ino : Int) : FSR × Int :=
  if (dirD f dir).2 ≠ 0 then (f, (dirD f dir).2) else if (findB f.l ino).2 = false then (f, 6) else if (findB f.l ino).1.kind = 2 then (f, 9) else if checkS s ≠ 0 then (f, checkS s) else
  if (findE (dirD f dir).1.l s).2 = true then (f, 7) else if 256 ≤ (dirD f dir).1.l.length ∨ 64 ≤ (findB f.l ino).1.links then (f, 12) else
  (putB (enteredD f dir s ino) { (findB f.l ino).1 with links := (findB f.l ino).1.links + 1 }, 0)
def withoutD (f : FSR) (dir : Int) (s : ByteArray) (ino : Int) : FSR := lessD (leftD f dir s) ino
def takeD (f : FSR) (dir : Int) (s : ByteArray) : FSR × Int :=
  if (lookD f dir s).2 ≠ 0 then (f, (lookD f dir s).2) else if 0 < (lookD f dir s).1.l.length then (f, 11) else (withoutD f dir s (lookD f dir s).1.ino, 0)
def overD (n old : NodeR) : Int := if n.kind = 2 ∧ old.kind ≠ 2 then 8 else if n.kind ≠ 2 ∧ old.kind = 2 then 9 else if 0 < old.l.length then 11 else 0
def belowD (f : FSR) (ino top : Int) : Bool := decide (0 < getM (underS f.l top) ino)
def clearD (f : FSR) (to : Int) (t : ByteArray) : FSR := if (lookD f to t).2 = 0 then withoutD f to t (lookD f to t).1.ino else f
def moveD (f : FSR) (dir : Int) (s : ByteArray) (to : Int) (t : ByteArray) : FSR × Int :=
  if (lookD f dir s).2 ≠ 0 then (f, (lookD f dir s).2) else if (dirD f to).2 ≠ 0 then (f, (dirD f to).2) else if checkS t ≠ 0 then (f, checkS t) else
  if (lookD f dir s).1.kind = 2 ∧ ((lookD f dir s).1.ino = to ∨ belowD f to (lookD f dir s).1.ino = true) then (f, 13) else
  if (lookD f to t).2 = 0 ∧ (lookD f to t).1.ino = (lookD f dir s).1.ino then (f, 0) else
  if (lookD f to t).2 = 0 ∧ overD (lookD f dir s).1 (lookD f to t).1 ≠ 0 then (f, overD (lookD f dir s).1 (lookD f to t).1) else
  if dir ≠ to ∧ 256 ≤ (findB (clearD f to t).l to).1.l.length then (f, 12) else
  (enteredD (leftD (clearD f to t) dir s) to t (lookD f dir s).1.ino, 0)
def errR (e : Int) : ReplyR := ⟨e, 0, 0, 0, .empty, []⟩
def ofD (f : FSR) (ino kind : Int) : NodeR × Int :=
  if (findB f.l ino).2 = false then ((findB f.l ino).1, 6) else if kind ≠ 0 ∧ (findB f.l ino).1.kind ≠ kind then ((findB f.l ino).1, 14) else ((findB f.l ino).1, 0)
def toldR (r : ReplyR) (e : Int) : ReplyR := if e ≠ 0 then errR e else r
def textD (f : FSR) (ino : Int) (turn : List UInt8 → List UInt8 × Int) : FSR × Int :=
  if (ofD f ino 1).2 ≠ 0 then (f, (ofD f ino 1).2) else
  if (turn (bs (ofD f ino 1).1.text)).2 ≠ 0 then (f, (turn (bs (ofD f ino 1).1.text)).2) else
  (putB f { (ofD f ino 1).1 with text := T (turn (bs (ofD f ino 1).1.text)).1 }, 0)
def addO (f : FSR) (c : CallR) (n : NodeR) : FSR × ReplyR :=
  if 4096 < n.text.size then (f, errR 5) else if (addD f c.ino c.name n).2 ≠ 0 then (f, errR (addD f c.ino c.name n).2) else ((addD f c.ino c.name n).1, ⟨0, f.next, 0, 0, .empty, []⟩)
def removeO (f : FSR) (c : CallR) (dir : Bool) : FSR × ReplyR :=
  if (lookD f c.ino c.name).2 ≠ 0 then (f, errR (lookD f c.ino c.name).2) else
  if (lookD f c.ino c.name).1.kind = 2 ∧ dir = false then (f, errR 9) else if (lookD f c.ino c.name).1.kind ≠ 2 ∧ dir = true then (f, errR 8) else
  ((takeD f c.ino c.name).1, errR (takeD f c.ino c.name).2)
def sizesF (l : List NodeR) : Int := (l.map fun n => (n.text.size : Int)).sum
def doS (f : FSR) (c : CallR) : FSR × ReplyR :=
  if c.kind = 1 then (f, toldR ⟨0, (lookD f c.ino c.name).1.ino, 0, 0, .empty, []⟩ (lookD f c.ino c.name).2)
  else if c.kind = 2 then (f, toldR ⟨0, (ofD f c.ino 0).1.kind, (ofD f c.ino 0).1.links, sizeS (ofD f c.ino 0).1, .empty, []⟩ (ofD f c.ino 0).2)
  else if c.kind = 3 then (f, if (ofD f c.ino 1).2 ≠ 0 then errR (ofD f c.ino 1).2 else toldR ⟨0, 0, 0, 0, T (readT (bs (ofD f c.ino 1).1.text) c.at_ c.many).1, []⟩ (readT (bs (ofD f c.ino 1).1.text) c.at_ c.many).2)
  else if c.kind = 4 then ((textD f c.ino fun s => writeT s c.at_ (bs c.text)).1, toldR ⟨0, c.text.size, 0, 0, .empty, []⟩ (textD f c.ino fun s => writeT s c.at_ (bs c.text)).2)
  else if c.kind = 5 then ((textD f c.ino fun s => cutT s c.many).1, errR (textD f c.ino fun s => cutT s c.many).2)
  else if c.kind = 6 then addO f c ⟨0, 1, 0, .empty, []⟩
  else if c.kind = 7 then addO f c ⟨0, 2, 0, .empty, []⟩
  else if c.kind = 8 then addO f c ⟨0, 3, 0, c.text, []⟩
  else if c.kind = 9 then removeO f c false
  else if c.kind = 10 then removeO f c true
  else if c.kind = 11 then ((giveD f c.ino c.name c.to_).1, errR (giveD f c.ino c.name c.to_).2)
  else if c.kind = 12 then ((moveD f c.ino c.name c.to_ c.name2).1, errR (moveD f c.ino c.name c.to_ c.name2).2)
  else if c.kind = 13 then (f, toldR ⟨0, 0, 0, 0, (ofD f c.ino 3).1.text, []⟩ (ofD f c.ino 3).2)
  else if c.kind = 14 then (f, toldR ⟨0, 0, 0, 0, .empty, (dirD f c.ino).1.l.map (·.name)⟩ (dirD f c.ino).2)
  else if c.kind = 15 then (f, ⟨0, f.l.length, sizesF f.l, 0, .empty, []⟩)
  else (f, errR 1)
def playS : FSR → List CallR → FSR × List ReplyR
  | f, [] => (f, [])
  | f, c :: l => ((playS (doS f c).1 l).1, (doS f c).2 :: (playS (doS f c).1 l).2)
def withI (l : List Int) (n : Int) : List Int := (l.takeWhile fun x => decide (x < n)) ++ n :: (l.dropWhile fun x => decide (x ≤ n))
def namedD (l : List Int) (f : FSR) (dir : Int) (s : ByteArray) : List Int := if (findE (findB f.l dir).1.l s).2 = true then withI l (findE (findB f.l dir).1.l s).1 else l
def looksS (f : FSR) (c : CallR) : List Int :=
  if c.kind = 15 then [0] else namedD (namedD (namedD (namedD (withI (withI [] c.ino) c.to_) f c.ino c.name) f c.ino c.name2) f c.to_ c.name) f c.to_ c.name2
def numsS (l : List Int) : List Int := l.foldl withI []
end Go.Cx
set_option linter.unusedVariables false
set_option linter.unusedSimpArgs false
namespace Go.Cx
theorem less_irrefl : ∀ l : List UInt8, Op.bytesLess l l = false
  | [] => rfl
  | a :: l => by simp [Op.bytesLess, less_irrefl l]
theorem less_trans : ∀ a b c : List UInt8, Op.bytesLess a b = true → Op.bytesLess b c = true → Op.bytesLess a c = true
  | _, [], _, h, _ => by simp [Op.bytesLess] at h
  | _, _ :: _, [], _, h => by simp [Op.bytesLess] at h
  | [], _ :: _, _ :: _, _, _ => rfl
  | a :: x, b :: y, c :: z, h1, h2 => by
    simp only [Op.bytesLess, Bool.or_eq_true, decide_eq_true_eq, Bool.and_eq_true, beq_iff_eq] at *
    rcases h1 with h1 | ⟨rfl, h1⟩
    · rcases h2 with h2 | ⟨rfl, h2⟩
      · exact .inl (UInt8.lt_trans h1 h2)
      · exact .inl h1
    · rcases h2 with h2 | ⟨rfl, h2⟩
      · exact .inl h2
      · exact .inr ⟨rfl, less_trans x y z h1 h2⟩
theorem less_total : ∀ a b : List UInt8, a ≠ b → Op.bytesLess a b = true ∨ Op.bytesLess b a = true
  | [], [], h => absurd rfl h
  | [], _ :: _, _ => .inl rfl
  | _ :: _, [], _ => .inr rfl
  | a :: x, b :: y, h => by
    simp only [Op.bytesLess, Bool.or_eq_true, decide_eq_true_eq, Bool.and_eq_true, beq_iff_eq]
    by_cases hab : a = b
    · subst hab
      have : x ≠ y := fun e => h (by rw [e])
      rcases less_total x y this with q | q
      · exact .inl (.inr ⟨rfl, q⟩)
      · exact .inr (.inr ⟨rfl, q⟩)
    · rcases UInt8.lt_or_lt_of_ne hab with q | q
      · exact .inl (.inl q)
      · exact .inr (.inl q)
theorem toList_inj {x y : ByteArray} (h : x.toList = y.toList) : x = y := by
  rw [ByteArray.toList_eq, ByteArray.toList_eq] at h
  cases x; cases y
  congr 1
  exact Array.ext' h
theorem strLt_irrefl (x : ByteArray) : strLt x x = false := less_irrefl _
theorem strLt_trans {x y z : ByteArray} (h1 : strLt x y = true) (h2 : strLt y z = true) : strLt x z = true := less_trans _ _ _ h1 h2
theorem strLt_total {x y : ByteArray} (h : x ≠ y) : strLt x y = true ∨ strLt y x = true := less_total _ _ fun e => h (toList_inj e)
theorem strLt_ne {x y : ByteArray} (h : strLt x y = true) : x ≠ y := fun e => by subst e; rw [strLt_irrefl] at h; cases h
def cmpS (x y : ByteArray) : Int := if x = y then 0 else if strLt x y = true then -1 else 1
theorem cmpS_lt (x y : ByteArray) : cmpS x y < 0 ↔ strLt x y = true := by
  unfold cmpS
  split
  · rename_i h; subst h; simp [strLt_irrefl]
  · split
    · rename_i h; simp [h]
    · rename_i h; simp [h]
theorem cmpS_eq (x y : ByteArray) : cmpS x y = 0 ↔ x = y := by
  unfold cmpS
  split
  · rename_i h; simp [h]
  · rename_i h; split <;> simp [h]
theorem cmpS_neg (x y : ByteArray) (q : cmpS x y < 0) : cmpS x y = -1 := by
  have := (cmpS_lt x y).1 q
  unfold cmpS; rw [if_neg (strLt_ne this), if_pos this]
theorem risesE_pair (l : List EntryR) : risesE l = true ↔ l.Pairwise fun a b => strLt a.name b.name = true := by
  induction l with
  | nil => simp [risesE]
  | cons a l ih =>
    cases l with
    | nil => simp [risesE]
    | cons b l =>
      simp only [risesE, Bool.and_eq_true, ih]
      constructor
      · rintro ⟨h1, h2⟩
        refine .cons (fun c hc => ?_) h2
        rcases List.mem_cons.1 hc with rfl | hc
        · exact h1
        · exact strLt_trans h1 (List.rel_of_pairwise_cons h2 hc)
      · intro h
        exact ⟨List.rel_of_pairwise_cons h (by simp), h.of_cons⟩
theorem risesE_filter {l : List EntryR} (h : risesE l = true) (p : EntryR → Bool) : risesE (l.filter p) = true :=
  (risesE_pair _).2 (((risesE_pair _).1 h).filter p)
theorem risesE_inj {l : List EntryR} (h : risesE l = true) {a b : EntryR} (ha : a ∈ l) (hb : b ∈ l) (e : a.name = b.name) : a = b := by
  have hp := (risesE_pair _).1 h
  induction l with
  | nil => cases ha
  | cons c l ih =>
    rcases List.mem_cons.1 ha with rfl | ha1 <;> rcases List.mem_cons.1 hb with rfl | hb1
    · rfl
    · have := List.rel_of_pairwise_cons hp hb1; exact absurd e (strLt_ne this)
    · have := List.rel_of_pairwise_cons hp ha1; exact absurd e.symm (strLt_ne this)
    · exact ih ((risesE_pair _).2 hp.of_cons) ha1 hb1 hp.of_cons
theorem entsOk_rises : ∀ {p : Option ByteArray} {l : List EntryR}, entsOk p l = true → risesE l = true ∧ ∀ x ∈ l, nameOk x.name = true ∧ 1 ≤ x.ino
  | _, [], _ => ⟨rfl, by simp⟩
  | p, a :: l, h => by
    simp only [entsOk, Bool.and_eq_true, decide_eq_true_eq] at h
    obtain ⟨h1, h2⟩ := entsOk_rises h.2
    refine ⟨?_, fun x hx => ?_⟩
    · cases l with
      | nil => rfl
      | cons b l =>
        simp only [risesE, Bool.and_eq_true]
        have := h.2
        simp only [entsOk, Option.map_some, Option.getD_some, Bool.and_eq_true] at this
        exact ⟨this.1.2, h1⟩
    · rcases List.mem_cons.1 hx with rfl | hx
      · exact ⟨h.1.1.1, h.1.1.2⟩
      · exact h2 x hx
theorem entsOk_of : ∀ {p : Option ByteArray} {l : List EntryR}, risesE l = true → (∀ x ∈ l, nameOk x.name = true ∧ 1 ≤ x.ino) → (∀ q x, p = some q → x ∈ l → strLt q x.name = true) → entsOk p l = true
  | _, [], _, _, _ => rfl
  | p, a :: l, h, h1, h2 => by
    have hp := (risesE_pair _).1 h
    simp only [entsOk, Bool.and_eq_true, decide_eq_true_eq]
    refine ⟨⟨h1 a (by simp), ?_⟩, entsOk_of ((risesE_pair _).2 hp.of_cons) (fun x hx => h1 x (by simp [hx])) fun q x hq hx => ?_⟩
    · cases p with
      | none => rfl
      | some q => simpa using h2 q a rfl (by simp)
    · injection hq with hq; subst hq
      exact List.rel_of_pairwise_cons hp hx
structure RowE (l : List EntryR) : Prop where
  len : l.length ≤ 256
  rise : risesE l = true
  ok : ∀ x ∈ l, nameOk x.name = true ∧ 1 ≤ x.ino
theorem rowOk_iff (l : List EntryR) : rowOk l = true ↔ RowE l := by
  simp only [rowOk, Bool.and_eq_true, decide_eq_true_eq]
  constructor
  · rintro ⟨h1, h2⟩
    obtain ⟨h3, h4⟩ := entsOk_rises h2
    exact ⟨h1, h3, h4⟩
  · rintro ⟨h1, h2, h3⟩
    exact ⟨h1, entsOk_of h2 h3 (by simp)⟩
theorem findE_some {l : List EntryR} (h : risesE l = true) {x : EntryR} (hx : x ∈ l) : findE l x.name = (x.ino, true) := by
  unfold findE
  cases hf : l.find? (fun y => decide (y.name = x.name)) with
  | none => have := List.find?_eq_none.1 hf x hx; simp at this
  | some y =>
    have h1 := List.mem_of_find?_eq_some hf
    have h2 := List.find?_some hf
    simp only [decide_eq_true_eq] at h2
    have := risesE_inj h h1 hx h2
    subst this; rfl
theorem findE_cases (l : List EntryR) (s : ByteArray) : (∃ x ∈ l, x.name = s ∧ findE l s = (x.ino, true)) ∨ ((∀ x ∈ l, x.name ≠ s) ∧ findE l s = (0, false)) := by
  unfold findE
  cases hf : l.find? (fun y => decide (y.name = s)) with
  | none => exact .inr ⟨fun x hx e => by have := List.find?_eq_none.1 hf x hx; simp [e] at this, rfl⟩
  | some y =>
    have h2 := List.find?_some hf
    simp only [decide_eq_true_eq] at h2
    exact .inl ⟨y, List.mem_of_find?_eq_some hf, h2, rfl⟩
theorem findE_cons (x : EntryR) (l : List EntryR) (s : ByteArray) : findE (x :: l) s = if x.name = s then (x.ino, true) else findE l s := by
  unfold findE; by_cases h : x.name = s <;> simp [h]
theorem findE_iff {l : List EntryR} (h : risesE l = true) (s : ByteArray) (ino : Int) : findE l s = (ino, true) ↔ ∃ x ∈ l, x.name = s ∧ x.ino = ino := by
  constructor
  · intro he
    rcases findE_cases l s with ⟨x, h1, h2, h3⟩ | ⟨_, h3⟩
    · rw [h3] at he; exact ⟨x, h1, h2, (Prod.mk.inj he).1⟩
    · rw [h3] at he; cases he
  · rintro ⟨x, h1, rfl, rfl⟩; exact findE_some h h1
theorem findE_false {l : List EntryR} {s : ByteArray} : (findE l s).2 = false ↔ ∀ x ∈ l, x.name ≠ s := by
  rcases findE_cases l s with ⟨x, h1, h2, h3⟩ | ⟨h1, h3⟩
  · rw [h3]; simp only [Bool.true_eq_false, false_iff]; exact fun q => q x h1 h2
  · rw [h3]; simp only [true_iff]; exact h1
theorem findE_same {l l' : List EntryR} (h : risesE l = true) (h' : risesE l' = true) {s : ByteArray} (hm : ∀ x, x.name = s → (x ∈ l ↔ x ∈ l')) : findE l s = findE l' s := by
  rcases findE_cases l s with ⟨x, h1, h2, h3⟩ | ⟨h1, h3⟩
  · rw [h3]; subst h2; rw [findE_some h' ((hm x rfl).1 h1)]
  · rcases findE_cases l' s with ⟨x, h4, h5, h6⟩ | ⟨h4, h6⟩
    · exact absurd h5 (h1 x ((hm x h5).2 h4))
    · rw [h3, h6]
def plE (l : List EntryR) (s : ByteArray) : Nat := (l.takeWhile fun x => strLt x.name s).length
theorem plE_le (l : List EntryR) (s : ByteArray) : plE l s ≤ l.length := (List.takeWhile_sublist _).length_le
theorem takeWhile_at {α : Type} (p : α → Bool) : ∀ (l : List α) (i : Nat) (h : i < (l.takeWhile p).length), ∃ h' : i < l.length, p l[i] = true
  | [], i, h => by simp at h
  | a :: l, i, h => by
    rw [List.takeWhile_cons] at h
    split at h
    · rename_i hp
      cases i with
      | zero => exact ⟨by simp, hp⟩
      | succ i =>
        obtain ⟨h', h2⟩ := takeWhile_at p l i (by simpa using h)
        exact ⟨by simpa using h', by simpa using h2⟩
    · simp at h
theorem takeWhile_end {α : Type} (p : α → Bool) : ∀ (l : List α) (h : (l.takeWhile p).length < l.length), p (l[(l.takeWhile p).length]) = false
  | [], h => by simp at h
  | a :: l, h => by
    by_cases hp : p a = true
    · have e : (a :: l).takeWhile p = a :: l.takeWhile p := by simp [hp]
      simp only [e, List.length_cons, List.getElem_cons_succ]
      exact takeWhile_end p l (by rw [e] at h; simpa using h)
    · have hp' : p a = false := by simpa using hp
      have e : (a :: l).takeWhile p = [] := by simp [hp']
      simp only [e, List.length_nil, List.getElem_cons_zero]; exact hp'
abbrev atE (l : List EntryR) (s : ByteArray) (i : Nat) : Int := cmpS (l.getD i .zero).name s
theorem atE_get {l : List EntryR} (s : ByteArray) {i : Nat} (h : i < l.length) : atE l s i = cmpS l[i].name s := by simp [atE, List.getD_eq_getElem?_getD, h]
theorem bs_plE {l : List EntryR} (h : risesE l = true) (s : ByteArray) : bsGo (atE l s) 0 0 l.length = plE l s := by
  have hp := List.pairwise_iff_getElem.1 ((risesE_pair _).1 h)
  have hmono : ∀ a b, a < b → b < l.length → atE l s a ≤ atE l s b := by
    intro a b hab hb
    have ha : a < l.length := by omega
    rw [atE_get s ha, atE_get s hb]
    have h1 := hp a b ha hb hab
    by_cases h2 : strLt l[b].name s = true
    · have h3 : cmpS l[a].name s < 0 := (cmpS_lt _ _).2 (strLt_trans h1 h2)
      have h4 : cmpS l[b].name s < 0 := (cmpS_lt _ _).2 h2
      have h5 : ∀ x y : ByteArray, cmpS x y < 0 → cmpS x y = -1 := cmpS_neg
      rw [h5 _ _ h3, h5 _ _ h4]; exact Int.le_refl _
    · by_cases h3 : l[b].name = s
      · have h4 : cmpS l[a].name s < 0 := (cmpS_lt _ _).2 (h3 ▸ h1)
        have : cmpS l[b].name s = 0 := (cmpS_eq _ _).2 h3
        omega
      · have : cmpS l[b].name s = 1 := by unfold cmpS; rw [if_neg h3, if_neg h2]
        have h5 : cmpS l[a].name s ≤ 1 := by
          unfold cmpS; split
          · omega
          · split <;> omega
        omega
  obtain ⟨_, q2, q3, q4⟩ := bsGo_spec (key := 0) hmono l.length 0 l.length rfl (Nat.zero_le _) (Nat.le_refl _) (fun m hm => by omega) (fun m h1 h2 => by omega)
  generalize bsGo (atE l s) 0 0 l.length = b at *
  rcases Nat.lt_trichotomy b (plE l s) with q | q | q
  · obtain ⟨h', h2⟩ := takeWhile_at _ l b q
    have := q4 b (Nat.le_refl _) h'
    rw [atE_get s h'] at this
    have := (cmpS_lt l[b].name s).2 h2
    omega
  · exact q
  · have hl : plE l s < l.length := by omega
    have h2 := takeWhile_end (fun x : EntryR => strLt x.name s) l hl
    have := q3 (plE l s) q
    rw [atE_get s hl, cmpS_lt] at this
    rw [show strLt l[plE l s].name s = false from h2] at this
    cases this
theorem find_plE {l : List EntryR} (h : risesE l = true) (s : ByteArray) : (decide (plE l s < l.length) && decide (atE l s (plE l s) = 0)) = (findE l s).2 ∧ ((findE l s).2 = true → ∃ hp : plE l s < l.length, l[plE l s].name = s ∧ (findE l s).1 = l[plE l s].ino) := by
  have hp := List.pairwise_iff_getElem.1 ((risesE_pair _).1 h)
  by_cases hl : plE l s < l.length
  · rw [atE_get s hl]
    by_cases hn : l[plE l s].name = s
    · have h1 := findE_some h (List.getElem_mem hl)
      rw [hn] at h1
      rw [h1]
      refine ⟨by simp [hl, (cmpS_eq _ _).2 hn], fun _ => ⟨hl, hn, rfl⟩⟩
    · have h2 := takeWhile_end (fun x : EntryR => strLt x.name s) l hl
      have h2 : strLt l[plE l s].name s = false := h2
      have hf : (findE l s).2 = false := findE_false.2 fun x hx e => by
        obtain ⟨j, hj, rfl⟩ := List.getElem_of_mem hx
        rcases Nat.lt_trichotomy j (plE l s) with q | q | q
        · obtain ⟨h', h3⟩ := takeWhile_at _ l j q
          simp only [e, strLt_irrefl] at h3
          cases h3
        · subst q; exact hn e
        · have := hp _ _ hl hj q
          rw [e, h2] at this; cases this
      refine ⟨?_, fun q => by rw [hf] at q; cases q⟩
      rw [hf]
      simp [mt (cmpS_eq _ _).1 hn]
  · have hf : (findE l s).2 = false := findE_false.2 fun x hx e => by
      obtain ⟨j, hj, rfl⟩ := List.getElem_of_mem hx
      obtain ⟨h', h3⟩ := takeWhile_at (fun x : EntryR => strLt x.name s) l j (by simp only [plE] at hl; omega)
      simp only [e, strLt_irrefl] at h3
      cases h3
    refine ⟨by rw [hf]; simp [hl], fun q => by rw [hf] at q; cases q⟩
theorem insE_eq (l : List EntryR) (s : ByteArray) (ino : Int) : insE l s ino = insL l (plE l s) ⟨s, ino⟩ := by
  simp only [insE, insL, plE]
  have h1 : ∀ (p : EntryR → Bool) (l : List EntryR), l.take (l.takeWhile p).length = l.takeWhile p ∧ l.drop (l.takeWhile p).length = l.dropWhile p := by
    intro p l
    induction l with
    | nil => exact ⟨rfl, rfl⟩
    | cons a l ih =>
      by_cases hp : p a = true
      · simp [hp, ih.1, ih.2]
      · simp [hp]
  rw [(h1 _ l).1, (h1 _ l).2]
end Go.Cx
set_option linter.unusedVariables false
set_option linter.unusedSimpArgs false
namespace Go.Cx
abbrev idI : Int → Int := fun x => x
abbrev risesI (l : List Int) : Bool := rises idI l
theorem withI_put (l : List Int) (n : Int) : withI l n = putS idI l n := rfl
theorem withI_spec {l : List Int} (h : risesI l = true) (n : Int) : risesI (withI l n) = true ∧ ∀ y, y ∈ withI l n ↔ y = n ∨ y ∈ l := by
  obtain ⟨h1, h2⟩ := putS_spec idI h n
  refine ⟨h1, fun y => ?_⟩
  rw [withI_put, h2]
  constructor
  · rintro (h | h)
    · exact .inl h
    · exact .inr h.1
  · rintro (h | h)
    · exact .inl h
    · by_cases e : y = n
      · exact .inl e
      · exact .inr ⟨h, e⟩
theorem foldW_spec : ∀ (l a : List Int), risesI a = true → risesI (l.foldl withI a) = true ∧ ∀ y, y ∈ l.foldl withI a ↔ y ∈ a ∨ y ∈ l
  | [], a, h => ⟨h, by simp⟩
  | x :: l, a, h => by
    obtain ⟨h1, h2⟩ := withI_spec h x
    obtain ⟨h3, h4⟩ := foldW_spec l (withI a x) h1
    refine ⟨h3, fun y => ?_⟩
    rw [List.foldl_cons, h4, h2]
    simp only [List.mem_cons]
    constructor
    · rintro ((h | h) | h)
      · exact .inr (.inl h)
      · exact .inl h
      · exact .inr (.inr h)
    · rintro (h | h | h)
      · exact .inl (.inr h)
      · exact .inl (.inl h)
      · exact .inr h
theorem numsS_spec (l : List Int) : risesI (numsS l) = true ∧ ∀ y, y ∈ numsS l ↔ y ∈ l := by
  obtain ⟨h1, h2⟩ := foldW_spec l [] rfl
  exact ⟨h1, fun y => by rw [numsS, h2]; simp⟩
theorem sorted_pair (l : List Int) : (l.mergeSort fun x y => decide (x ≤ y)).Pairwise (· ≤ ·) := by
  have := List.pairwise_mergeSort (le := fun x y : Int => decide (x ≤ y)) (fun a b c h1 h2 => by simp at *; omega) (fun a b => by simp; omega) l
  exact this.imp fun h => by simpa using h
end Go.Cx
