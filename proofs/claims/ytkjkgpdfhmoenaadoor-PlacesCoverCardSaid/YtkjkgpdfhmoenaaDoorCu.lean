/-
  Pre-tokens as plain lists: by items, as chapter 12 has them, and by bytes, as the program finds them; they are the same. The pre-tokens by items are those by bytes.
-/
import Derived.Test.YtkjkgpdfhmoenaaDoorIt
import Derived.Test.YtkjkgpdfhmoenaaDoorMoNew
namespace Go.Proofs.YtkjkgpdfhmoenaaDoor.Cu
open Go Go.Proofs.YtkjkgpdfhmoenaaDoor.Utf Go.Proofs.YtkjkgpdfhmoenaaDoor.It Go.Proofs.YtkjkgpdfhmoenaaDoor.Dt Go.Proofs.YtkjkgpdfhmoenaaDoor.Tab Go.Proofs.YtkjkgpdfhmoenaaDoor.Good

/-- An item's kind. -/
def kind (D : Dt) (x : It) : Int := if x.bad = true then 4 else kindOf D x.rune
theorem kind_range (D : Dt) (x : It) : kind D x = 1 ∨ kind D x = 2 ∨ kind D x = 3 ∨ kind D x = 4 := by
  unfold kind kindOf
  split
  · simp
  · split
    · simp
    · split
      · simp
      · split <;> simp
theorem kind_shift (D : Dt) (c : Nat) (x : It) : kind D (shift c x) = kind D x := rfl

theorem kind_blank {D : Dt} (h : Good.Good D) : kindOf D 32 = 3 := by
  have h4 := h.c4
  unfold chk4 at h4
  by_cases q0 : 512 < D.n0
  · rw [if_pos q0] at h4; exact absurd (show (_ : Int) = 0 from h4) (by first | decide | exact (by decide : ((16 : Int) ≠ 0)))
  rw [if_neg q0] at h4
  by_cases q1 : 512 < D.n1
  · rw [if_pos q1] at h4; exact absurd (show (_ : Int) = 0 from h4) (by first | decide | exact (by decide : ((16 : Int) ≠ 0)))
  rw [if_neg q1] at h4
  by_cases q2 : 512 < D.n2
  · rw [if_pos q2] at h4; exact absurd (show (_ : Int) = 0 from h4) (by first | decide | exact (by decide : ((16 : Int) ≠ 0)))
  rw [if_neg q2] at h4
  by_cases q3 : (SpFns.rt D.L0 D.H0 D.n0 0).2 ≠ 0
  · rw [if_pos q3] at h4; exact absurd h4 q3
  rw [if_neg q3] at h4
  by_cases q4 : (SpFns.rt D.L1 D.H1 D.n1 0).2 ≠ 0
  · rw [if_pos q4] at h4; exact absurd h4 q4
  rw [if_neg q4] at h4
  by_cases q5 : (SpFns.rt D.L2 D.H2 D.n2 0).2 ≠ 0
  · rw [if_pos q5] at h4; exact absurd h4 q5
  rw [if_neg q5] at h4
  by_cases q6 : (SpLists.fr (SpLists.hit D.L1 D.H1 D.L0 D.H0 D.n0) D.n1 0).2 = true
  · rw [if_pos q6] at h4; exact absurd (show (_ : Int) = 0 from h4) (by first | decide | exact (by decide : ((16 : Int) ≠ 0)))
  rw [if_neg q6] at h4
  by_cases q7 : (SpLists.fr (SpLists.hit D.L2 D.H2 D.L0 D.H0 D.n0) D.n2 0).2 = true ∧ (SpLists.fr (SpLists.hit D.L2 D.H2 D.L1 D.H1 D.n1) D.n2 0).2 = true
  · rw [if_pos q7] at h4; exact absurd (show (_ : Int) = 0 from h4) (by first | decide | exact (by decide : ((16 : Int) ≠ 0)))
  rw [if_neg q7] at h4
  by_cases q8 : (SpLists.fr (SpLists.hit D.L2 D.H2 D.L0 D.H0 D.n0) D.n2 0).2 = true
  · rw [if_pos q8] at h4; exact absurd (show (_ : Int) = 0 from h4) (by first | decide | exact (by decide : ((16 : Int) ≠ 0)))
  rw [if_neg q8] at h4
  by_cases q9 : (SpLists.fr (SpLists.hit D.L2 D.H2 D.L1 D.H1 D.n1) D.n2 0).2 = true
  · rw [if_pos q9] at h4; exact absurd (show (_ : Int) = 0 from h4) (by first | decide | exact (by decide : ((16 : Int) ≠ 0)))
  rw [if_neg q9] at h4
  by_cases q10 : SpRef.InD D.L2 D.H2 D.n2 32 = false ∨ SpRef.InD D.L0 D.H0 D.n0 39 = true ∨ SpRef.InD D.L1 D.H1 D.n1 39 = true ∨ SpRef.InD D.L2 D.H2 D.n2 39 = true
  · rw [if_pos q10] at h4; exact absurd (show (_ : Int) = 0 from h4) (by first | decide | exact (by decide : ((16 : Int) ≠ 0)))
  rw [if_neg q10] at h4
  have hs : SpRef.InD D.L2 D.H2 D.n2 32 = true := by
    cases hx : SpRef.InD D.L2 D.H2 D.n2 32
    · exact absurd (.inl hx) q10
    · rfl
  have key : ∀ {p : Nat → Bool} {n i : Nat}, (SpLists.fr p n i).2 ≠ true → ∀ k, i ≤ k → k < i + n → p k ≠ true := by
    intro p n
    induction n with
    | zero => intro i _ k h1 h2; omega
    | succ n ih =>
      intro i hq k h1 h2 hp
      rw [SpLists.fr] at hq
      split at hq
      · exact hq rfl
      · rename_i hi
        rcases Nat.eq_or_lt_of_le h1 with h3 | h3
        · subst h3; exact hi hp
        · exact ih hq k h3 (by omega) hp
  have hs' := hs
  unfold SpRef.InD at hs'
  simp only [decide_eq_true_eq] at hs'
  obtain ⟨hv, i, hi, hl, hh⟩ := hs'
  have f0 : SpRef.InD D.L0 D.H0 D.n0 32 = false := by
    unfold SpRef.InD
    simp only [decide_eq_false_iff_not]
    rintro ⟨_, j, hj, h1, h2⟩
    refine key q8 i (Nat.zero_le _) (by omega) ?_
    unfold SpLists.hit
    simp only [decide_eq_true_eq]
    exact ⟨j, hj, by omega, by omega⟩
  have f1 : SpRef.InD D.L1 D.H1 D.n1 32 = false := by
    unfold SpRef.InD
    simp only [decide_eq_false_iff_not]
    rintro ⟨_, j, hj, h1, h2⟩
    refine key q9 i (Nat.zero_le _) (by omega) ?_
    unfold SpLists.hit
    simp only [decide_eq_true_eq]
    exact ⟨j, hj, by omega, by omega⟩
  unfold kindOf
  rw [if_neg (by simp [f0]), if_neg (by simp [f1]), if_pos hs]

/-! ### By items -/
def is (x : It) (r : Nat) : Bool := !x.bad && decide (x.rune = r)
/-- How many items a Short has that begins items; none: an item is asked for that isn't there. -/
def shortI (L : List It) (fin : Bool) : Option Nat :=
  if is (L.getD 0 default) 39 = false then some 0
  else if L.length ≤ 1 then (if fin = true then some 0 else none)
  else if is (L.getD 1 default) 115 = true ∨ is (L.getD 1 default) 116 = true ∨ is (L.getD 1 default) 109 = true ∨ is (L.getD 1 default) 100 = true then some 2
  else if is (L.getD 1 default) 114 = false ∧ is (L.getD 1 default) 118 = false ∧ is (L.getD 1 default) 108 = false then some 0
  else if L.length ≤ 2 then (if fin = true then some 0 else none)
  else if (is (L.getD 1 default) 108 = true ∧ is (L.getD 2 default) 108 = true) ∨ (is (L.getD 1 default) 108 = false ∧ is (L.getD 2 default) 101 = true) then some 3
  else some 0
/-- How many items of a kind begin items. -/
def runI (D : Dt) (k : Int) : List It → Nat
  | [] => 0
  | x :: L => if kind D x = k then runI D k L + 1 else 0
theorem runI_le (D : Dt) (k : Int) : ∀ L, runI D k L ≤ L.length
  | [] => Nat.le_refl _
  | x :: L => by
    have := runI_le D k L
    unfold runI
    split
    · simp; omega
    · omega
theorem runI_at {D : Dt} {k : Int} : ∀ {L : List It} {i : Nat}, i < runI D k L → kind D (L.getD i default) = k
  | [], i, h => by simp [runI] at h
  | x :: L, i, h => by
    unfold runI at h
    split at h
    · rename_i h1
      cases i with
      | zero => simpa using h1
      | succ i => simpa using runI_at (L := L) (i := i) (by omega)
    · omega
theorem runI_stop {D : Dt} {k : Int} : ∀ {L : List It}, runI D k L < L.length → kind D (L.getD (runI D k L) default) ≠ k
  | [], h => by simp [runI] at h
  | x :: L, h => by
    by_cases h1 : kind D x = k
    · have e : runI D k (x :: L) = runI D k L + 1 := by simp [runI, h1]
      rw [e] at h ⊢
      simpa using runI_stop (L := L) (by simpa using h)
    · have e : runI D k (x :: L) = 0 := by simp [runI, h1]
      rw [e]
      simpa using h1
theorem runI_eq {D : Dt} {k : Int} {L : List It} {n : Nat} (hn : n ≤ L.length) (h1 : ∀ i, i < n → kind D (L.getD i default) = k) (h2 : n < L.length → kind D (L.getD n default) ≠ k) : runI D k L = n := by
  rcases Nat.lt_trichotomy (runI D k L) n with h | h | h
  · exact absurd (h1 _ h) (runI_stop (by omega))
  · exact h
  · exact absurd (runI_at h) (h2 (by have := runI_le D k L; omega))
theorem runI_map (D : Dt) (k : Int) (c : Nat) : ∀ L, runI D k (L.map (shift c)) = runI D k L
  | [] => rfl
  | x :: L => by simp only [List.map_cons, runI, kind_shift, runI_map D k c L]

/-- Where a run begins that items begin with: 1 behind a blank, unless white space follows. -/
def skip (D : Dt) (L : List It) : Nat := if is (L.getD 0 default) 32 = true ∧ 1 < L.length ∧ kind D (L.getD 1 default) ≠ 3 then 1 else 0
def sortOf (k : Int) : Nat := if k = 1 then 2 else if k = 2 then 3 else 4
/-- The pre-token that begins items: how many, and its sort; none: an item is asked for that isn't there. -/
def nextI (D : Dt) (L : List It) (fin : Bool) : Option (Nat × Nat) :=
  match shortI L fin with
  | none => none
  | some (n + 1) => some (n + 1, 1)
  | some 0 =>
    if is (L.getD 0 default) 32 = true ∧ L.length ≤ 1 ∧ fin = false then none
    else
      let j := skip D L
      let k := kind D (L.getD j default)
      let n := j + runI D k (L.drop j)
      if n = L.length ∧ fin = false then none
      else if k = 3 then (if n < L.length ∧ 2 ≤ n then some (n - 1, 5) else some (n, 5))
      else some (n, sortOf k)

theorem skip_le (D : Dt) {L : List It} (h : L ≠ []) : skip D L < L.length := by
  have : 0 < L.length := List.length_pos_iff.2 h
  unfold skip
  split <;> omega
theorem skip_one (D : Dt) (L : List It) : skip D L ≤ 1 := by unfold skip; split <;> omega
theorem run_pos (D : Dt) {L : List It} (j : Nat) (hj : j < L.length) : 0 < runI D (kind D (L.getD j default)) (L.drop j) := by
  have e : L.drop j = L[j] :: L.drop (j + 1) := List.drop_eq_getElem_cons hj
  rw [e]
  have : L.getD j default = L[j] := by simp [List.getD, hj]
  rw [this]
  simp [runI]
theorem shortI_le {L : List It} {fin : Bool} {n : Nat} (h : shortI L fin = some n) (hL : L ≠ []) : n ≤ L.length := by
  have : 0 < L.length := List.length_pos_iff.2 hL
  unfold shortI at h
  split at h
  · simp at h; omega
  split at h
  · split at h <;> simp at h
    omega
  split at h
  · simp at h; omega
  split at h
  · simp at h; omega
  split at h
  · split at h <;> simp at h
    omega
  split at h <;> simp at h <;> omega

theorem nextI_some {D : Dt} {L : List It} {fin : Bool} {n s : Nat} (h : nextI D L fin = some (n, s)) (hL : L ≠ []) : 0 < n ∧ n ≤ L.length ∧ 1 ≤ s ∧ s ≤ 5 := by
  unfold nextI at h
  split at h
  · cases h
  · rename_i m hm
    have := shortI_le hm hL
    simp only [Option.some.injEq, Prod.mk.injEq] at h
    omega
  · split at h
    · cases h
    · have h1 := skip_le D hL
      have h2 := run_pos D _ h1
      have h3 := runI_le D (kind D (L.getD (skip D L) default)) (L.drop (skip D L))
      rw [List.length_drop] at h3
      simp only at h
      split at h
      · cases h
      · split at h
        · split at h
          · simp only [Option.some.injEq, Prod.mk.injEq] at h
            omega
          · simp only [Option.some.injEq, Prod.mk.injEq] at h
            omega
        · simp only [Option.some.injEq, Prod.mk.injEq] at h
          have : 2 ≤ sortOf (kind D (L.getD (skip D L) default)) ∧ sortOf (kind D (L.getD (skip D L) default)) ≤ 5 := by
            unfold sortOf
            split
            · omega
            · split <;> omega
          omega

/-- A pre-token. -/
structure Tk where
  a : Nat
  b : Nat
  s : Nat
deriving Inhabited, DecidableEq

def ofF (D : Dt) (fin : Bool) : Nat → List It → List Tk × Nat
  | 0, _ => ([], 0)
  | f + 1, L => if L = [] then ([], 0) else match nextI D L fin with
    | none => ([], 0)
    | some (n, s) => (⟨(L.getD 0 default).from', (L.getD (n - 1) default).from' + (L.getD (n - 1) default).bytes, s⟩ :: (ofF D fin f (L.drop n)).1, n + (ofF D fin f (L.drop n)).2)
/-- The pre-tokens that can be told of items, and the number of items that they have. -/
def ofI (D : Dt) (L : List It) (fin : Bool) : List Tk × Nat := ofF D fin L.length L

theorem ofF_more (D : Dt) (fin : Bool) : ∀ (f : Nat) (L : List It), L.length ≤ f → ofF D fin f L = ofF D fin L.length L
  | 0, L, h => by rw [show L.length = 0 by omega]
  | f + 1, L, h => by
    by_cases hl : L = []
    · subst hl; simp [ofF]
    · have h2 : 0 < L.length := List.length_pos_iff.2 hl
      have e : L.length = L.length - 1 + 1 := by omega
      rw [e]
      simp only [ofF, if_neg hl]
      match hq : nextI D L fin with
      | none => rfl
      | some (n, s) =>
        have h3 := nextI_some hq hl
        have h4 : (L.drop n).length ≤ L.length - 1 := by rw [List.length_drop]; omega
        simp only
        rw [ofF_more D fin f _ (by omega), ofF_more D fin (L.length - 1) _ h4]
theorem ofI_nil (D : Dt) (fin : Bool) : ofI D [] fin = ([], 0) := rfl
theorem ofI_none {D : Dt} {L : List It} {fin : Bool} (h : nextI D L fin = none) : ofI D L fin = ([], 0) := by
  unfold ofI
  cases L with
  | nil => rfl
  | cons x L => simp [ofF, h]
theorem ofI_some {D : Dt} {L : List It} {fin : Bool} {n s : Nat} (hL : L ≠ []) (h : nextI D L fin = some (n, s)) :
    ofI D L fin = (⟨(L.getD 0 default).from', (L.getD (n - 1) default).from' + (L.getD (n - 1) default).bytes, s⟩ :: (ofI D (L.drop n) fin).1, n + (ofI D (L.drop n) fin).2) := by
  have h2 : 0 < L.length := List.length_pos_iff.2 hL
  have e : L.length = L.length - 1 + 1 := by omega
  have h3 := nextI_some h hL
  unfold ofI
  rw [e]
  simp only [ofF, if_neg hL, h]
  rw [ofF_more D fin (L.length - 1) _ (by rw [List.length_drop]; omega)]

/-- At an end, every pre-token can be told. -/
theorem shortI_fin {L : List It} : ∃ n, shortI L true = some n := by
  unfold shortI
  split
  · exact ⟨_, rfl⟩
  split
  · exact ⟨_, rfl⟩
  split
  · exact ⟨_, rfl⟩
  split
  · exact ⟨_, rfl⟩
  split
  · exact ⟨_, rfl⟩
  split <;> exact ⟨_, rfl⟩
theorem nextI_fin (D : Dt) {L : List It} : ∃ n s, nextI D L true = some (n, s) := by
  obtain ⟨m, hm⟩ := shortI_fin (L := L)
  unfold nextI
  rw [hm]
  cases m with
  | succ m => exact ⟨_, _, rfl⟩
  | zero =>
    simp only [Bool.true_eq_false, and_false, if_false]
    split
    · split <;> exact ⟨_, _, rfl⟩
    · exact ⟨_, _, rfl⟩

/-! ### By bytes -/
/-- The bytes of a Short that begins bytes. -/
def shortB (l : List UInt8) : Nat :=
  if by' l 0 ≠ 39 ∨ l.length ≤ 1 then 0
  else if by' l 1 = 115 ∨ by' l 1 = 116 ∨ by' l 1 = 109 ∨ by' l 1 = 100 then 2
  else if 2 < l.length ∧ (by' l 1 = 114 ∧ by' l 2 = 101 ∨ by' l 1 = 118 ∧ by' l 2 = 101 ∨ by' l 1 = 108 ∧ by' l 2 = 108) then 3
  else 0
/-- The first item's kind; 0: there is none. -/
def headK (D : Dt) (l : List UInt8) : Int := if l = [] then 0 else kind D (one 0 l)
/-- How many items have the first one's kind. -/
def runN (D : Dt) (l : List UInt8) : Nat := runI D (headK D l) (items 0 l)
/-- How many bytes have these. -/
def runB (D : Dt) (l : List UInt8) : Nat := sum ((items 0 l).take (runN D l))
/-- The bytes of the last one. -/
def lastB (D : Dt) (l : List UInt8) : Nat := if l = [] then 0 else ((items 0 l).getD (runN D l - 1) default).bytes
/-- The pre-token that begins bytes: how many, and its sort. -/
def nextB (D : Dt) (l : List UInt8) : Nat × Nat :=
  if shortB l ≠ 0 then (shortB l, 1)
  else if headK D l ≠ 3 then (runB D l, sortOf (headK D l))
  else if by' l 0 = 32 ∧ runB D l = 1 ∧ 1 < l.length then (1 + runB D (l.drop 1), sortOf (headK D (l.drop 1)))
  else if runB D l < l.length ∧ lastB D l < runB D l then (runB D l - lastB D l, 5)
  else (runB D l, 5)

/-- An item is an ASCII rune just if the byte is. -/
theorem is_one (a : Nat) {l : List UInt8} {r : Nat} (hr : r < 128) : is (one a l) r = decide (by' l 0 = r) := by
  unfold is one dec
  rcases width_cases l with ⟨h, h0⟩ | ⟨h, h0, h1, hl, hk⟩ | ⟨h, h0, h1, hl, hk, hk2⟩ | ⟨h, h0, h1, hl, hk, hk2, hk3⟩ | ⟨h, h0, _⟩
  · simp [h, rune]
  · rw [ok1] at hk
    have : rune l 2 ≠ r := by simp only [rune]; simp; omega
    simp [h, this]; omega
  · rw [ok1] at hk; rw [ok2] at hk2
    have : rune l 3 ≠ r := by simp only [rune]; simp; omega
    simp [h, this]; omega
  · rw [ok1] at hk; rw [ok2] at hk2; rw [ok3] at hk3
    have : rune l 4 ≠ r := by simp only [rune]; simp; omega
    simp [h, this]; omega
  · simp [h]; omega
theorem ascii_bytes (a : Nat) {l : List UInt8} (h : by' l 0 < 128) : (one a l).bytes = 1 := by
  have : width l = 1 := by unfold width; rw [if_pos h]
  rw [one_bytes, this]
  rfl
end Go.Proofs.YtkjkgpdfhmoenaaDoor.Cu
namespace Go.Proofs.YtkjkgpdfhmoenaaDoor.Cu
open Go Go.Proofs.YtkjkgpdfhmoenaaDoor.Utf Go.Proofs.YtkjkgpdfhmoenaaDoor.It Go.Proofs.YtkjkgpdfhmoenaaDoor.Dt Go.Proofs.YtkjkgpdfhmoenaaDoor.Tab Go.Proofs.YtkjkgpdfhmoenaaDoor.Good

theorem getD_drop {α : Type} [Inhabited α] (L : List α) (c i : Nat) : (L.drop c).getD i default = L.getD (c + i) default := by
  simp [List.getD]
theorem items_one {a : Nat} {l : List UInt8} (h : l ≠ []) : (items a l).getD 0 default = one a l := by rw [items_cons a h]; rfl
theorem items_two {a : Nat} {l : List UInt8} (h : l ≠ []) (h1 : by' l 0 < 128) : items a l = one a l :: items (a + 1) (l.drop 1) := by
  rw [items_cons a h, ascii_bytes a h1]
theorem items_second {a : Nat} {l : List UInt8} (h0 : by' l 0 < 128) (h1 : 1 < l.length) : (items a l).getD 1 default = one (a + 1) (l.drop 1) := by
  have h : l ≠ [] := by rintro rfl; simp at h1
  rw [items_two h h0]
  show (items (a + 1) (l.drop 1)).getD 0 default = _
  rw [items_one]
  intro h2
  rw [List.drop_eq_nil_iff] at h2
  omega
theorem items_third {a : Nat} {l : List UInt8} (h0 : by' l 0 < 128) (h1 : by' l 1 < 128) (h2 : 2 < l.length) : (items a l).getD 2 default = one (a + 2) (l.drop 2) := by
  have h : l ≠ [] := by rintro rfl; simp at h2
  rw [items_two h h0]
  show (items (a + 1) (l.drop 1)).getD 1 default = _
  rw [items_second (by rw [by_drop]; exact h1) (by rw [List.length_drop]; omega), List.drop_drop]
theorem len_two {a : Nat} {l : List UInt8} (h : l ≠ []) (h0 : by' l 0 < 128) : ((items a l).length ≤ 1 ↔ l.length ≤ 1) := by
  rw [items_two h h0, List.length_cons]
  constructor
  · intro h1
    have : items (a + 1) (l.drop 1) = [] := List.length_eq_zero_iff.1 (by omega)
    have := items_eq_nil this
    rw [List.drop_eq_nil_iff] at this
    exact this
  · intro h1
    rw [List.drop_eq_nil_iff.2 h1, items_nil]
    simp
theorem len_three {a : Nat} {l : List UInt8} (h : l ≠ []) (h0 : by' l 0 < 128) (h1 : by' l 1 < 128) (h2 : 1 < l.length) : ((items a l).length ≤ 2 ↔ l.length ≤ 2) := by
  have h3 : l.drop 1 ≠ [] := by
    intro h4
    rw [List.drop_eq_nil_iff] at h4
    omega
  have := len_two (a := a + 1) h3 (by rw [by_drop]; exact h1)
  rw [items_two h h0, List.length_cons]
  rw [List.length_drop] at this
  omega
theorem by_zero {l : List UInt8} {k : Nat} (h : l.length ≤ k) : by' l k = 0 := by
  unfold by'
  simp [List.getD, h]

theorem short_eq {a : Nat} {l : List UInt8} (h : l ≠ []) : shortI (items a l) true = some (shortB l) := by
  unfold shortI shortB
  have hp : 0 < l.length := List.length_pos_iff.2 h
  rw [items_one h, is_one a (by decide)]
  by_cases h0 : by' l 0 = 39
  · have h0' : by' l 0 < 128 := by omega
    rw [if_neg (by simp [h0])]
    by_cases h1 : l.length ≤ 1
    · rw [if_pos ((len_two h h0').2 h1), if_pos rfl, if_pos (.inr h1)]
    · rw [if_neg (fun q => h1 ((len_two h h0').1 q)), if_neg (c := by' l 0 ≠ 39 ∨ l.length ≤ 1) (by omega), items_second h0' (by omega)]
      simp only [is_one (a + 1) (l := l.drop 1) (r := 115) (by decide), is_one (a + 1) (l := l.drop 1) (r := 116) (by decide), is_one (a + 1) (l := l.drop 1) (r := 109) (by decide), is_one (a + 1) (l := l.drop 1) (r := 100) (by decide), is_one (a + 1) (l := l.drop 1) (r := 114) (by decide), is_one (a + 1) (l := l.drop 1) (r := 118) (by decide), is_one (a + 1) (l := l.drop 1) (r := 108) (by decide), by_drop, Nat.add_zero, decide_eq_true_eq, decide_eq_false_iff_not]
      by_cases h2 : by' l 1 = 115 ∨ by' l 1 = 116 ∨ by' l 1 = 109 ∨ by' l 1 = 100
      · rw [if_pos h2, if_pos h2]
      rw [if_neg h2, if_neg h2]
      by_cases h3 : ¬ by' l 1 = 114 ∧ ¬ by' l 1 = 118 ∧ ¬ by' l 1 = 108
      · rw [if_pos h3, if_neg (by omega)]
      rw [if_neg h3]
      have h1' : by' l 1 < 128 := by omega
      by_cases h4 : l.length ≤ 2
      · rw [if_pos ((len_three h h0' h1' (by omega)).2 h4), if_pos trivial, if_neg (by omega)]
      rw [if_neg (fun q => h4 ((len_three h h0' h1' (by omega)).1 q)), items_third h0' h1' (by omega)]
      simp only [is_one (a + 2) (l := l.drop 2) (r := 108) (by decide), is_one (a + 2) (l := l.drop 2) (r := 101) (by decide), by_drop, Nat.add_zero, decide_eq_true_eq]
      by_cases h5 : (by' l 1 = 108 ∧ by' l 2 = 108) ∨ (¬ by' l 1 = 108 ∧ by' l 2 = 101)
      · rw [if_pos h5, if_pos (by omega)]
      · rw [if_neg h5, if_neg (by omega)]
  · rw [if_pos (by simp [h0]), if_pos (.inl h0)]

theorem head_eq (D : Dt) {a : Nat} {l : List UInt8} (h : l ≠ []) : kind D ((items a l).getD 0 default) = headK D l := by
  rw [items_one h]
  unfold headK
  rw [if_neg h]
  rfl
theorem run_eq (D : Dt) (a : Nat) (k : Int) (l : List UInt8) : runI D k (items a l) = runI D k (items 0 l) := by
  have := items_shift a l 0
  rw [Nat.add_zero] at this
  rw [this, runI_map]
theorem sum_eq (a n : Nat) (l : List UInt8) : sum ((items a l).take n) = sum ((items 0 l).take n) := by
  have := items_shift a l 0
  rw [Nat.add_zero] at this
  rw [this, ← List.map_take, sum_shift]
theorem runN_pos {D : Dt} {l : List UInt8} (h : l ≠ []) : 0 < runN D l := by
  have := run_pos D (L := items 0 l) 0 (List.length_pos_iff.2 (items_ne h))
  rw [head_eq D h] at this
  rw [List.drop_zero] at this
  exact this
theorem runN_le (D : Dt) (l : List UInt8) : runN D l ≤ (items 0 l).length := runI_le D _ _
theorem sum_le_take {L : List It} (hL : ∀ x, x ∈ L → 0 < x.bytes) : ∀ n, n ≤ L.length → n ≤ sum (L.take n) := by
  intro n
  induction n generalizing L with
  | zero => intro _; omega
  | succ n ih =>
    intro h
    cases L with
    | nil => simp at h
    | cons x L =>
      have h1 := hL x List.mem_cons_self
      have h2 := ih (L := L) (fun y hy => hL y (List.mem_cons_of_mem _ hy)) (by simpa using h)
      simp only [List.take_succ_cons, sum_cons]
      omega
theorem runB_ge (D : Dt) (l : List UInt8) : runN D l ≤ runB D l := sum_le_take (fun _ h => items_pos h) _ (runN_le D l)
theorem runB_le (D : Dt) (l : List UInt8) : runB D l ≤ l.length := sum_take_le _ _ _
/-- A run's bytes are those of the items but the last, and those of the last. -/
theorem runB_last {D : Dt} {l : List UInt8} (h : l ≠ []) : runB D l = sum ((items 0 l).take (runN D l - 1)) + lastB D l := by
  have h1 := runN_pos (D := D) h
  have h2 := runN_le D l
  unfold runB lastB
  rw [if_neg h]
  have := sum_take_succ (a := 0) (l := l) (c := runN D l - 1) (by omega)
  rw [show runN D l - 1 + 1 = runN D l by omega] at this
  exact this
theorem runB_lt {D : Dt} {l : List UInt8} (h : runN D l < (items 0 l).length) : runB D l < l.length := sum_take_lt h
theorem runB_full {D : Dt} {l : List UInt8} (h : runN D l = (items 0 l).length) : runB D l = l.length := by
  unfold runB
  rw [h, List.take_length, sum_items]

/-- What the program finds by bytes is what chapter 12 says by items. -/
theorem next_eq {D : Dt} (hg : Good.Good D) (a : Nat) {l : List UInt8} (h : l ≠ []) :
    ∃ n, nextI D (items a l) true = some (n, (nextB D l).2) ∧ 0 < n ∧ n ≤ (items a l).length ∧ (nextB D l).1 = sum ((items 0 l).take n) ∧ 1 ≤ (nextB D l).2 ∧ (nextB D l).2 ≤ 5 := by
  suffices h1 : ∃ n, nextI D (items a l) true = some (n, (nextB D l).2) ∧ (nextB D l).1 = sum ((items 0 l).take n) by
    obtain ⟨n, h2, h3⟩ := h1
    obtain ⟨h4, h5, h6, h7⟩ := nextI_some h2 (items_ne h)
    exact ⟨n, h2, h4, h5, h3, h6, h7⟩
  have hp : 0 < l.length := List.length_pos_iff.2 h
  unfold nextI
  rw [short_eq h]
  unfold nextB
  by_cases hs : shortB l ≠ 0
  · rw [if_pos hs]
    obtain ⟨m, hm⟩ : ∃ m, shortB l = m + 1 := ⟨shortB l - 1, by omega⟩
    refine ⟨m + 1, by rw [hm], ?_⟩
    have h0 : by' l 0 = 39 ∧ 1 < l.length := by
      unfold shortB at hs
      split at hs
      · exact absurd rfl hs
      · omega
    have h1 : by' l 1 < 128 := by
      unfold shortB at hs
      split at hs
      · exact absurd rfl hs
      · split at hs
        · omega
        · split at hs <;> omega
    have e1 := items_two (a := 0) h (by omega)
    have h3 : l.drop 1 ≠ [] := by
      intro h4
      rw [List.drop_eq_nil_iff] at h4
      omega
    have e2 := items_two (a := 0 + 1) h3 (by rw [by_drop]; exact h1)
    rw [hm]
    show m + 1 = sum ((items 0 l).take (m + 1))
    rcases (show shortB l = 2 ∨ (shortB l = 3 ∧ 2 < l.length ∧ by' l 2 < 128) by
      unfold shortB at hs ⊢
      split at hs
      · exact absurd rfl hs
      rename_i q
      rw [if_neg q]
      split
      · exact .inl rfl
      · split
        · exact .inr ⟨rfl, by omega, by omega⟩
        · rename_i q1 q2
          rw [if_neg q1, if_neg q2] at hs
          exact absurd rfl hs) with h5 | ⟨h5, h6, h7⟩
    · have : m = 1 := by omega
      subst this
      rw [e1, e2]
      simp only [List.take_succ_cons, sum_cons, List.take_zero, sum_nil]
      rw [ascii_bytes _ (by omega), ascii_bytes _ (by rw [by_drop]; exact h1)]
    · have : m = 2 := by omega
      subst this
      have h8 : (l.drop 1).drop 1 ≠ [] := by
        intro h4
        rw [List.drop_eq_nil_iff, List.length_drop] at h4
        omega
      have e3 := items_two (a := 0 + 1 + 1) h8 (by rw [by_drop, by_drop]; exact h7)
      rw [e1, e2, e3]
      simp only [List.take_succ_cons, sum_cons, List.take_zero, sum_nil]
      rw [ascii_bytes _ (by omega), ascii_bytes _ (by rw [by_drop]; exact h1), ascii_bytes _ (by rw [by_drop, by_drop]; exact h7)]
  · have hs0 : shortB l = 0 := Decidable.not_not.1 hs
    rw [if_neg hs, hs0]
    simp only [Bool.true_eq_false, and_false, if_false]
    have hi0 : is ((items a l).getD 0 default) 32 = decide (by' l 0 = 32) := by rw [items_one h, is_one a (by decide)]
    have hk0 := head_eq D (a := a) h
    have hr := run_eq D a (headK D l) l
    have hR1 := runN_pos (D := D) h
    have hR2 := runN_le D l
    have hR3 := runB_ge D l
    have hlen : (items a l).length = (items 0 l).length := by
      have := items_shift a l 0
      rw [Nat.add_zero] at this
      rw [this, List.length_map]
    by_cases hj : by' l 0 = 32 ∧ runB D l = 1 ∧ 1 < l.length
    · -- a blank ahead of a run that is none of white space
      have hj0 : by' l 0 < 128 := by omega
      have hb : headK D l = 3 := by
        unfold headK
        rw [if_neg h]
        have : one 0 l = ⟨0, 1, 32, false⟩ := by
          have hw : width l = 1 := by unfold width; rw [if_pos hj0]
          unfold one dec
          rw [if_neg (by omega), hw]
          simp [rune, hj.1]
        rw [this]
        exact kind_blank hg
      have hn1 : runN D l = 1 := by omega
      have h3 : l.drop 1 ≠ [] := by
        intro h4
        rw [List.drop_eq_nil_iff] at h4
        omega
      have e1 := items_two (a := a) h hj0
      have e0 := items_two (a := 0) h hj0
      have hnx : kind D ((items a l).getD 1 default) ≠ 3 := by
        have h5 : runI D (headK D l) (items a l) = 1 := by rw [hr]; exact hn1
        have h6 : 1 < (items a l).length := by
          have := (len_two (a := a) h hj0)
          omega
        have := runI_stop (D := D) (k := headK D l) (L := items a l) (by omega)
        rw [h5, hb] at this
        exact this
      have hlen2 : 1 < (items a l).length := by
        have := (len_two (a := a) h hj0)
        omega
      have hsk : skip D (items a l) = 1 := by
        unfold skip
        rw [if_pos ⟨by rw [hi0]; simp [hj.1], hlen2, hnx⟩]
      have hk1 : kind D ((items a l).getD 1 default) = headK D (l.drop 1) := by
        rw [e1]
        exact head_eq D h3
      rw [hsk, if_neg (by rw [hk1] at hnx; rw [hk1]; exact hnx), if_neg (by rw [hb]; decide), if_pos hj]
      refine ⟨_, by rw [hk1], ?_⟩
      rw [e1, e0, List.drop_succ_cons, List.drop_zero, run_eq, Nat.add_comm 1 (runI _ _ _), List.take_succ_cons, sum_cons, ascii_bytes _ hj0, sum_eq]
      rfl
    · have hsk : skip D (items a l) = 0 := by
        unfold skip
        rw [if_neg]
        rintro ⟨h1, h2, h3⟩
        rw [hi0] at h1
        have h1' : by' l 0 = 32 := by simpa using h1
        have hj0 : by' l 0 < 128 := by omega
        have hl2 := len_two (a := a) h hj0
        apply hj
        refine ⟨h1', ?_, by omega⟩
        have hb : headK D l = 3 := by
          unfold headK
          rw [if_neg h]
          have : one 0 l = ⟨0, 1, 32, false⟩ := by
            have hw : width l = 1 := by unfold width; rw [if_pos hj0]
            unfold one dec
            rw [if_neg (by omega), hw]
            simp [rune, h1']
          rw [this]
          exact kind_blank hg
        have hn1 : runN D l = 1 := by
          unfold runN
          rw [← hr]
          refine runI_eq (by omega) ?_ ?_
          · intro i hi
            have : i = 0 := by omega
            subst this
            exact hk0
          · intro _
            rw [hb]
            exact h3
        unfold runB
        rw [hn1, items_two (a := 0) h hj0, List.take_succ_cons, List.take_zero, sum_cons, sum_nil, ascii_bytes _ hj0]
      rw [hsk, List.drop_zero, hk0, hr, Nat.zero_add]
      rw [show runI D (headK D l) (items 0 l) = runN D l from rfl]
      by_cases hb : headK D l = 3
      · rw [if_pos hb, if_neg (c := headK D l ≠ 3) (by rw [hb]; decide), if_neg hj]
        have hlast := runB_last (D := D) h
        by_cases hq : runN D l < (items a l).length ∧ 2 ≤ runN D l
        · have h1 := runB_lt (D := D) (l := l) (by omega)
          have h2 := sum_le_take (L := items 0 l) (fun _ h => items_pos h) (runN D l - 1) (by omega)
          rw [if_pos hq, if_pos ⟨h1, by omega⟩]
          exact ⟨_, rfl, by show runB D l - lastB D l = _; omega⟩
        · rw [if_neg hq, if_neg]
          · exact ⟨_, rfl, rfl⟩
          · rintro ⟨h1, h2⟩
            apply hq
            constructor
            · rcases Nat.lt_or_ge (runN D l) (items a l).length with h3 | h3
              · exact h3
              · have := runB_full (D := D) (l := l) (by omega)
                omega
            · rcases Nat.lt_or_ge (runN D l) 2 with h3 | h3
              · have : runN D l - 1 = 0 := by omega
                rw [this] at hlast
                simp at hlast
                omega
              · exact h3
      · rw [if_neg hb, if_pos hb]
        exact ⟨_, rfl, rfl⟩
end Go.Proofs.YtkjkgpdfhmoenaaDoor.Cu
