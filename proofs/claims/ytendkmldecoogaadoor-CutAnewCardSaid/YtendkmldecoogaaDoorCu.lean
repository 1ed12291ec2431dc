/-
  Pre-tokens as plain lists: by items, as chapter 12 has them, and by bytes, as the program finds them; they are the same.
-/
import Derived.Test.YtendkmldecoogaaDoorIt
import Derived.Test.YtendkmldecoogaaDoorGood
namespace Go.Proofs.YtendkmldecoogaaDoor.Cu
open Go Go.Proofs.YtendkmldecoogaaDoor.Utf Go.Proofs.YtendkmldecoogaaDoor.It Go.Proofs.YtendkmldecoogaaDoor.Dt Go.Proofs.YtendkmldecoogaaDoor.Tab Go.Proofs.YtendkmldecoogaaDoor.Good

/-- An item's kind. -/
def kind (D : Dt) (x : It) : Int := if x.bad = true then 4 else kindOf D x.rune
theorem kind_range (D : Dt) (x : It) : kind D x = 1 ∨ kind D x = 2 ∨ kind D x = 3 ∨ kind D x = 4 := by
  unfold kind kindOf
  split
  · simp
  · split
    · simp
    · split
      · simp
      · split <;> simp
theorem kind_shift (D : Dt) (c : Nat) (x : It) : kind D (shift c x) = kind D x := rfl

theorem kind_blank {D : Dt} (h : Good.Good D) : kindOf D 32 = 3 := by
  have h4 := h.c4
  unfold chk4 at h4
  by_cases q0 : 512 < D.n0
  · rw [if_pos q0] at h4; exact absurd (show (_ : Int) = 0 from h4) (by first | decide | exact (by decide : ((16 : Int) ≠ 0)))
  rw [if_neg q0] at h4
  by_cases q1 : 512 < D.n1
  · rw [if_pos q1] at h4; exact absurd (show (_ : Int) = 0 from h4) (by first | decide | exact (by decide : ((16 : Int) ≠ 0)))
  rw [if_neg q1] at h4
  by_cases q2 : 512 < D.n2
  · rw [if_pos q2] at h4; exact absurd (show (_ : Int) = 0 from h4) (by first | decide | exact (by decide : ((16 : Int) ≠ 0)))
  rw [if_neg q2] at h4
  by_cases q3 : (SpFns.rt D.L0 D.H0 D.n0 0).2 ≠ 0
  · rw [if_pos q3] at h4; exact absurd h4 q3
  rw [if_neg q3] at h4
  by_cases q4 : (SpFns.rt D.L1 D.H1 D.n1 0).2 ≠ 0
  · rw [if_pos q4] at h4; exact absurd h4 q4
  rw [if_neg q4] at h4
  by_cases q5 : (SpFns.rt D.L2 D.H2 D.n2 0).2 ≠ 0
  · rw [if_pos q5] at h4; exact absurd h4 q5
  rw [if_neg q5] at h4
  by_cases q6 : (SpLists.fr (SpLists.hit D.L1 D.H1 D.L0 D.H0 D.n0) D.n1 0).2 = true
  · rw [if_pos q6] at h4; exact absurd (show (_ : Int) = 0 from h4) (by first | decide | exact (by decide : ((16 : Int) ≠ 0)))
  rw [if_neg q6] at h4
  by_cases q7 : (SpLists.fr (SpLists.hit D.L2 D.H2 D.L0 D.H0 D.n0) D.n2 0).2 = true ∧ (SpLists.fr (SpLists.hit D.L2 D.H2 D.L1 D.H1 D.n1) D.n2 0).2 = true
  · rw [if_pos q7] at h4; exact absurd (show (_ : Int) = 0 from h4) (by first | decide | exact (by decide : ((16 : Int) ≠ 0)))
  rw [if_neg q7] at h4
  by_cases q8 : (SpLists.fr (SpLists.hit D.L2 D.H2 D.L0 D.H0 D.n0) D.n2 0).2 = true
  · rw [if_pos q8] at h4; exact absurd (show (_ : Int) = 0 from h4) (by first | decide | exact (by decide : ((16 : Int) ≠ 0)))
  rw [if_neg q8] at h4
  by_cases q9 : (SpLists.fr (SpLists.hit D.L2 D.H2 D.L1 D.H1 D.n1) D.n2 0).2 = true
  · rw [if_pos q9] at h4; exact absurd (show (_ : Int) = 0 from h4) (by first | decide | exact (by decide : ((16 : Int) ≠ 0)))
  rw [if_neg q9] at h4
  by_cases q10 : SpRef.InD D.L2 D.H2 D.n2 32 = false ∨ SpRef.InD D.L0 D.H0 D.n0 39 = true ∨ SpRef.InD D.L1 D.H1 D.n1 39 = true ∨ SpRef.InD D.L2 D.H2 D.n2 39 = true
  · rw [if_pos q10] at h4; exact absurd (show (_ : Int) = 0 from h4) (by first | decide | exact (by decide : ((16 : Int) ≠ 0)))
  rw [if_neg q10] at h4
  have hs : SpRef.InD D.L2 D.H2 D.n2 32 = true := by
    cases hx : SpRef.InD D.L2 D.H2 D.n2 32
    · exact absurd (.inl hx) q10
    · rfl
  have key : ∀ {p : Nat → Bool} {n i : Nat}, (SpLists.fr p n i).2 ≠ true → ∀ k, i ≤ k → k < i + n → p k ≠ true := by
    intro p n
    induction n with
    | zero => intro i _ k h1 h2; omega
    | succ n ih =>
      intro i hq k h1 h2 hp
      rw [SpLists.fr] at hq
      split at hq
      · exact hq rfl
      · rename_i hi
        rcases Nat.eq_or_lt_of_le h1 with h3 | h3
        · subst h3; exact hi hp
        · exact ih hq k h3 (by omega) hp
  have hs' := hs
  unfold SpRef.InD at hs'
  simp only [decide_eq_true_eq] at hs'
  obtain ⟨hv, i, hi, hl, hh⟩ := hs'
  have f0 : SpRef.InD D.L0 D.H0 D.n0 32 = false := by
    unfold SpRef.InD
    simp only [decide_eq_false_iff_not]
    rintro ⟨_, j, hj, h1, h2⟩
    refine key q8 i (Nat.zero_le _) (by omega) ?_
    unfold SpLists.hit
    simp only [decide_eq_true_eq]
    exact ⟨j, hj, by omega, by omega⟩
  have f1 : SpRef.InD D.L1 D.H1 D.n1 32 = false := by
    unfold SpRef.InD
    simp only [decide_eq_false_iff_not]
    rintro ⟨_, j, hj, h1, h2⟩
    refine key q9 i (Nat.zero_le _) (by omega) ?_
    unfold SpLists.hit
    simp only [decide_eq_true_eq]
    exact ⟨j, hj, by omega, by omega⟩
  unfold kindOf
  rw [if_neg (by simp [f0]), if_neg (by simp [f1]), if_pos hs]

/-! ### By items -/
def is (x : It) (r : Nat) : Bool := !x.bad && decide (x.rune = r)
/-- How many items a Short has that begins items; none: an item is asked for that isn't there. -/
def shortI (L : List It) (fin : Bool) : Option Nat :=
  if is (L.getD 0 default) 39 = false then some 0
  else if L.length ≤ 1 then (if fin = true then some 0 else none)
  else if is (L.getD 1 default) 115 = true ∨ is (L.getD 1 default) 116 = true ∨ is (L.getD 1 default) 109 = true ∨ is (L.getD 1 default) 100 = true then some 2
  else if is (L.getD 1 default) 114 = false ∧ is (L.getD 1 default) 118 = false ∧ is (L.getD 1 default) 108 = false then some 0
  else if L.length ≤ 2 then (if fin = true then some 0 else none)
  else if (is (L.getD 1 default) 108 = true ∧ is (L.getD 2 default) 108 = true) ∨ (is (L.getD 1 default) 108 = false ∧ is (L.getD 2 default) 101 = true) then some 3
  else some 0
/-- How many items of a kind begin items. -/
def runI (D : Dt) (k : Int) : List It → Nat
  | [] => 0
  | x :: L => if kind D x = k then runI D k L + 1 else 0
theorem runI_le (D : Dt) (k : Int) : ∀ L, runI D k L ≤ L.length
  | [] => Nat.le_refl _
  | x :: L => by
    have := runI_le D k L
    unfold runI
    split
    · simp; omega
    · omega
theorem runI_at {D : Dt} {k : Int} : ∀ {L : List It} {i : Nat}, i < runI D k L → kind D (L.getD i default) = k
  | [], i, h => by simp [runI] at h
  | x :: L, i, h => by
    unfold runI at h
    split at h
    · rename_i h1
      cases i with
      | zero => simpa using h1
      | succ i => simpa using runI_at (L := L) (i := i) (by omega)
    · omega
theorem runI_stop {D : Dt} {k : Int} : ∀ {L : List It}, runI D k L < L.length → kind D (L.getD (runI D k L) default) ≠ k
  | [], h => by simp [runI] at h
  | x :: L, h => by
    by_cases h1 : kind D x = k
    · have e : runI D k (x :: L) = runI D k L + 1 := by simp [runI, h1]
      rw [e] at h ⊢
      simpa using runI_stop (L := L) (by simpa using h)
    · have e : runI D k (x :: L) = 0 := by simp [runI, h1]
      rw [e]
      simpa using h1
theorem runI_eq {D : Dt} {k : Int} {L : List It} {n : Nat} (hn : n ≤ L.length) (h1 : ∀ i, i < n → kind D (L.getD i default) = k) (h2 : n < L.length → kind D (L.getD n default) ≠ k) : runI D k L = n := by
  rcases Nat.lt_trichotomy (runI D k L) n with h | h | h
  · exact absurd (h1 _ h) (runI_stop (by omega))
  · exact h
  · exact absurd (runI_at h) (h2 (by have := runI_le D k L; omega))
theorem runI_map (D : Dt) (k : Int) (c : Nat) : ∀ L, runI D k (L.map (shift c)) = runI D k L
  | [] => rfl
  | x :: L => by simp only [List.map_cons, runI, kind_shift, runI_map D k c L]

/-- Where a run begins that items begin with: 1 behind a blank, unless white space follows. -/
def skip (D : Dt) (L : List It) : Nat := if is (L.getD 0 default) 32 = true ∧ 1 < L.length ∧ kind D (L.getD 1 default) ≠ 3 then 1 else 0
def sortOf (k : Int) : Nat := if k = 1 then 2 else if k = 2 then 3 else 4
/-- The pre-token that begins items: how many, and its sort; none: an item is asked for that isn't there. -/
def nextI (D : Dt) (L : List It) (fin : Bool) : Option (Nat × Nat) :=
  match shortI L fin with
  | none => none
  | some (n + 1) => some (n + 1, 1)
  | some 0 =>
    if is (L.getD 0 default) 32 = true ∧ L.length ≤ 1 ∧ fin = false then none
    else
      let j := skip D L
      let k := kind D (L.getD j default)
      let n := j + runI D k (L.drop j)
      if n = L.length ∧ fin = false then none
      else if k = 3 then (if n < L.length ∧ 2 ≤ n then some (n - 1, 5) else some (n, 5))
      else some (n, sortOf k)

theorem skip_le (D : Dt) {L : List It} (h : L ≠ []) : skip D L < L.length := by
  have : 0 < L.length := List.length_pos_iff.2 h
  unfold skip
  split <;> omega
theorem skip_one (D : Dt) (L : List It) : skip D L ≤ 1 := by unfold skip; split <;> omega
theorem run_pos (D : Dt) {L : List It} (j : Nat) (hj : j < L.length) : 0 < runI D (kind D (L.getD j default)) (L.drop j) := by
  have e : L.drop j = L[j] :: L.drop (j + 1) := List.drop_eq_getElem_cons hj
  rw [e]
  have : L.getD j default = L[j] := by simp [List.getD, hj]
  rw [this]
  simp [runI]
theorem shortI_le {L : List It} {fin : Bool} {n : Nat} (h : shortI L fin = some n) (hL : L ≠ []) : n ≤ L.length := by
  have : 0 < L.length := List.length_pos_iff.2 hL
  unfold shortI at h
  split at h
  · simp at h; omega
  split at h
  · split at h <;> simp at h
    omega
  split at h
  · simp at h; omega
  split at h
  · simp at h; omega
  split at h
  · split at h <;> simp at h
    omega
  split at h <;> simp at h <;> omega

theorem nextI_some {D : Dt} {L : List It} {fin : Bool} {n s : Nat} (h : nextI D L fin = some (n, s)) (hL : L ≠ []) : 0 < n ∧ n ≤ L.length ∧ 1 ≤ s ∧ s ≤ 5 := by
  unfold nextI at h
  split at h
  · cases h
  · rename_i m hm
    have := shortI_le hm hL
    simp only [Option.some.injEq, Prod.mk.injEq] at h
    omega
  · split at h
    · cases h
    · have h1 := skip_le D hL
      have h2 := run_pos D _ h1
      have h3 := runI_le D (kind D (L.getD (skip D L) default)) (L.drop (skip D L))
      rw [List.length_drop] at h3
      simp only at h
      split at h
      · cases h
      · split at h
        · split at h
          · simp only [Option.some.injEq, Prod.mk.injEq] at h
            omega
          · simp only [Option.some.injEq, Prod.mk.injEq] at h
            omega
        · simp only [Option.some.injEq, Prod.mk.injEq] at h
          have : 2 ≤ sortOf (kind D (L.getD (skip D L) default)) ∧ sortOf (kind D (L.getD (skip D L) default)) ≤ 5 := by
            unfold sortOf
            split
            · omega
            · split <;> omega
          omega

/-- A pre-token. -/
structure Tk where
  a : Nat
  b : Nat
  s : Nat
deriving Inhabited, DecidableEq

def ofF (D : Dt) (fin : Bool) : Nat → List It → List Tk × Nat
  | 0, _ => ([], 0)
  | f + 1, L => if L = [] then ([], 0) else match nextI D L fin with
    | none => ([], 0)
    | some (n, s) => (⟨(L.getD 0 default).from', (L.getD (n - 1) default).from' + (L.getD (n - 1) default).bytes, s⟩ :: (ofF D fin f (L.drop n)).1, n + (ofF D fin f (L.drop n)).2)
/-- The pre-tokens that can be told of items, and the number of items that they have. -/
def ofI (D : Dt) (L : List It) (fin : Bool) : List Tk × Nat := ofF D fin L.length L

theorem ofF_more (D : Dt) (fin : Bool) : ∀ (f : Nat) (L : List It), L.length ≤ f → ofF D fin f L = ofF D fin L.length L
  | 0, L, h => by rw [show L.length = 0 by omega]
  | f + 1, L, h => by
    by_cases hl : L = []
    · subst hl; simp [ofF]
    · have h2 : 0 < L.length := List.length_pos_iff.2 hl
      have e : L.length = L.length - 1 + 1 := by omega
      rw [e]
      simp only [ofF, if_neg hl]
      match hq : nextI D L fin with
      | none => rfl
      | some (n, s) =>
        have h3 := nextI_some hq hl
        have h4 : (L.drop n).length ≤ L.length - 1 := by rw [List.length_drop]; omega
        simp only
        rw [ofF_more D fin f _ (by omega), ofF_more D fin (L.length - 1) _ h4]
theorem ofI_nil (D : Dt) (fin : Bool) : ofI D [] fin = ([], 0) := rfl
theorem ofI_none {D : Dt} {L : List It} {fin : Bool} (h : nextI D L fin = none) : ofI D L fin = ([], 0) := by
  unfold ofI
  cases L with
  | nil => rfl
  | cons x L => simp [ofF, h]
theorem ofI_some {D : Dt} {L : List It} {fin : Bool} {n s : Nat} (hL : L ≠ []) (h : nextI D L fin = some (n, s)) :
    ofI D L fin = (⟨(L.getD 0 default).from', (L.getD (n - 1) default).from' + (L.getD (n - 1) default).bytes, s⟩ :: (ofI D (L.drop n) fin).1, n + (ofI D (L.drop n) fin).2) := by
  have h2 : 0 < L.length := List.length_pos_iff.2 hL
  have e : L.length = L.length - 1 + 1 := by omega
  have h3 := nextI_some h hL
  unfold ofI
  rw [e]
  simp only [ofF, if_neg hL, h]
  rw [ofF_more D fin (L.length - 1) _ (by rw [List.length_drop]; omega)]

/-- At an end, every pre-token can be told. -/
theorem shortI_fin {L : List It} : ∃ n, shortI L true = some n := by
  unfold shortI
  split
  · exact ⟨_, rfl⟩
  split
  · exact ⟨_, rfl⟩
  split
  · exact ⟨_, rfl⟩
  split
  · exact ⟨_, rfl⟩
  split
  · exact ⟨_, rfl⟩
  split <;> exact ⟨_, rfl⟩
theorem nextI_fin (D : Dt) {L : List It} : ∃ n s, nextI D L true = some (n, s) := by
  obtain ⟨m, hm⟩ := shortI_fin (L := L)
  unfold nextI
  rw [hm]
  cases m with
  | succ m => exact ⟨_, _, rfl⟩
  | zero =>
    simp only [Bool.true_eq_false, and_false, if_false]
    split
    · split <;> exact ⟨_, _, rfl⟩
    · exact ⟨_, _, rfl⟩

/-! ### By bytes -/
/-- The bytes of a Short that begins bytes. -/
def shortB (l : List UInt8) : Nat :=
  if by' l 0 ≠ 39 ∨ l.length ≤ 1 then 0
  else if by' l 1 = 115 ∨ by' l 1 = 116 ∨ by' l 1 = 109 ∨ by' l 1 = 100 then 2
  else if 2 < l.length ∧ (by' l 1 = 114 ∧ by' l 2 = 101 ∨ by' l 1 = 118 ∧ by' l 2 = 101 ∨ by' l 1 = 108 ∧ by' l 2 = 108) then 3
  else 0
/-- The first item's kind; 0: there is none. -/
def headK (D : Dt) (l : List UInt8) : Int := if l = [] then 0 else kind D (one 0 l)
/-- How many items have the first one's kind. -/
def runN (D : Dt) (l : List UInt8) : Nat := runI D (headK D l) (items 0 l)
/-- How many bytes have these. -/
def runB (D : Dt) (l : List UInt8) : Nat := sum ((items 0 l).take (runN D l))
/-- The bytes of the last one. -/
def lastB (D : Dt) (l : List UInt8) : Nat := if l = [] then 0 else ((items 0 l).getD (runN D l - 1) default).bytes
/-- The pre-token that begins bytes: how many, and its sort. -/
def nextB (D : Dt) (l : List UInt8) : Nat × Nat :=
  if shortB l ≠ 0 then (shortB l, 1)
  else if headK D l ≠ 3 then (runB D l, sortOf (headK D l))
  else if by' l 0 = 32 ∧ runB D l = 1 ∧ 1 < l.length then (1 + runB D (l.drop 1), sortOf (headK D (l.drop 1)))
  else if runB D l < l.length ∧ lastB D l < runB D l then (runB D l - lastB D l, 5)
  else (runB D l, 5)

/-- An item is an ASCII rune just if the byte is. -/
theorem is_one (a : Nat) {l : List UInt8} {r : Nat} (hr : r < 128) : is (one a l) r = decide (by' l 0 = r) := by
  unfold is one dec
  rcases width_cases l with ⟨h, h0⟩ | ⟨h, h0, h1, hl, hk⟩ | ⟨h, h0, h1, hl, hk, hk2⟩ | ⟨h, h0, h1, hl, hk, hk2, hk3⟩ | ⟨h, h0, _⟩
  · simp [h, rune]
  · rw [ok1] at hk
    have : rune l 2 ≠ r := by simp only [rune]; simp; omega
    simp [h, this]; omega
  · rw [ok1] at hk; rw [ok2] at hk2
    have : rune l 3 ≠ r := by simp only [rune]; simp; omega
    simp [h, this]; omega
  · rw [ok1] at hk; rw [ok2] at hk2; rw [ok3] at hk3
    have : rune l 4 ≠ r := by simp only [rune]; simp; omega
    simp [h, this]; omega
  · simp [h]; omega
theorem ascii_bytes (a : Nat) {l : List UInt8} (h : by' l 0 < 128) : (one a l).bytes = 1 := by
  have : width l = 1 := by unfold width; rw [if_pos h]
  rw [one_bytes, this]
  rfl
end Go.Proofs.YtendkmldecoogaaDoor.Cu
