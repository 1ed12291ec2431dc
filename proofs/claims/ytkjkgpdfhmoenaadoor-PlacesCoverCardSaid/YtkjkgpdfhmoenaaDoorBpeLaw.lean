/-
  The plain law of merging: a heap of pairs, of which the least is asked, and numbers that are cut out of a row, do what chapter 10 says: the pair of least rank that stands leftmost is merged, till there is none.
-/
import Derived.Test.YtkjkgpdfhmoenaaDoorDt
namespace Go.Proofs.YtkjkgpdfhmoenaaDoor.BpeLaw
open Go.Proofs.YtkjkgpdfhmoenaaDoor.Dt

/-! ### What chapter 10 says -/
section
variable (mg : Int → Int → Option (Int × Int))

/-- The best of the first n pairs: its rank, its place, what it becomes. -/
def bst (l : List Int) : Nat → Option (Int × Nat × Int)
  | 0 => none
  | n + 1 => match mg (l.getD n 0) (l.getD (n + 1) 0) with
    | none => bst l n
    | some (r, id) => match bst l n with
      | none => some (r, n, id)
      | some (r0, i0, id0) => if r < r0 then some (r, n, id) else some (r0, i0, id0)

def nxt (l : List Int) : Option (Int × Nat × Int) := bst mg l (l.length - 1)

def put (l : List Int) (i : Nat) (id : Int) : List Int := l.take i ++ id :: l.drop (i + 2)

def jn : Nat → List Int → List Int
  | 0, l => l
  | n + 1, l => match nxt mg l with
    | none => l
    | some (_, i, id) => jn n (put l i id)

/-- Ids, merged as long as there is a merge. -/
def joined (l : List Int) : List Int := jn mg l.length l

variable {mg}

theorem bst_none {l : List Int} : ∀ {n : Nat}, bst mg l n = none ↔ ∀ i, i < n → mg (l.getD i 0) (l.getD (i + 1) 0) = none
  | 0 => ⟨fun _ i hi => by omega, fun _ => rfl⟩
  | n + 1 => by
    unfold bst
    constructor
    · intro h i hi
      cases hm : mg (l.getD n 0) (l.getD (n + 1) 0) with
      | none =>
        rw [hm] at h
        rcases Nat.eq_or_lt_of_le (Nat.le_of_lt_succ hi) with rfl | h2
        · exact hm
        · exact bst_none.1 h i h2
      | some x =>
        rw [hm] at h
        cases hb : bst mg l n with
        | none => simp [hb] at h
        | some y => 
          simp only [hb] at h
          split at h <;> cases h
    · intro h
      rw [h n (Nat.lt_succ_self n)]
      exact bst_none.2 fun i hi => h i (by omega)

theorem bst_some {l : List Int} : ∀ {n : Nat} {r : Int} {i : Nat} {id : Int}, bst mg l n = some (r, i, id) →
    i < n ∧ mg (l.getD i 0) (l.getD (i + 1) 0) = some (r, id) ∧ ∀ j r' id', j < n → mg (l.getD j 0) (l.getD (j + 1) 0) = some (r', id') → r < r' ∨ (r = r' ∧ i ≤ j)
  | 0, r, i, id, h => by cases h
  | n + 1, r, i, id, h => by
    unfold bst at h
    cases hm : mg (l.getD n 0) (l.getD (n + 1) 0) with
    | none =>
      rw [hm] at h
      obtain ⟨h1, h2, h3⟩ := bst_some (n := n) h
      refine ⟨by omega, h2, fun j r' id' hj hr => ?_⟩
      rcases Nat.eq_or_lt_of_le (Nat.le_of_lt_succ hj) with rfl | h4
      · rw [hm] at hr; cases hr
      · exact h3 j r' id' h4 hr
    | some x =>
      obtain ⟨rx, idx⟩ := x
      rw [hm] at h
      cases hb : bst mg l n with
      | none =>
        simp only [hb, Option.some.injEq, Prod.mk.injEq] at h
        obtain ⟨rfl, rfl, rfl⟩ := h
        refine ⟨by omega, hm, fun j r' id' hj hr => ?_⟩
        rcases Nat.eq_or_lt_of_le (Nat.le_of_lt_succ hj) with rfl | h4
        · rw [hm] at hr
          simp only [Option.some.injEq, Prod.mk.injEq] at hr
          exact .inr ⟨hr.1, Nat.le_refl _⟩
        · rw [bst_none.1 hb j h4] at hr; cases hr
      | some y =>
        obtain ⟨r0, i0, id0⟩ := y
        obtain ⟨h1, h2, h3⟩ := bst_some hb
        simp only [hb] at h
        split at h
        · rename_i hlt
          simp only [Option.some.injEq, Prod.mk.injEq] at h
          obtain ⟨rfl, rfl, rfl⟩ := h
          refine ⟨by omega, hm, fun j r' id' hj hr => ?_⟩
          rcases Nat.eq_or_lt_of_le (Nat.le_of_lt_succ hj) with rfl | h4
          · rw [hm] at hr
            simp only [Option.some.injEq, Prod.mk.injEq] at hr
            exact .inr ⟨hr.1, Nat.le_refl _⟩
          · rcases h3 j r' id' h4 hr with h5 | h5
            · exact .inl (by omega)
            · exact .inl (by omega)
        · rename_i hlt
          simp only [Option.some.injEq, Prod.mk.injEq] at h
          obtain ⟨rfl, rfl, rfl⟩ := h
          refine ⟨by omega, h2, fun j r' id' hj hr => ?_⟩
          rcases Nat.eq_or_lt_of_le (Nat.le_of_lt_succ hj) with rfl | h4
          · rw [hm] at hr
            simp only [Option.some.injEq, Prod.mk.injEq] at hr
            rcases Int.lt_or_le r0 rx with h5 | h5
            · exact .inl (by omega)
            · exact .inr ⟨by omega, by omega⟩
          · exact h3 j r' id' h4 hr

theorem nxt_eq {l : List Int} {r : Int} {i : Nat} {id : Int} (hi : i + 1 < l.length) (hm : mg (l.getD i 0) (l.getD (i + 1) 0) = some (r, id))
    (h : ∀ j r' id', j + 1 < l.length → mg (l.getD j 0) (l.getD (j + 1) 0) = some (r', id') → r < r' ∨ (r = r' ∧ i ≤ j)) : nxt mg l = some (r, i, id) := by
  unfold nxt
  cases hb : bst mg l (l.length - 1) with
  | none => rw [bst_none.1 hb i (by omega)] at hm; cases hm
  | some x =>
    obtain ⟨r0, i0, id0⟩ := x
    obtain ⟨h1, h2, h3⟩ := bst_some hb
    have h4 := h3 i r id (by omega) hm
    have h5 := h i0 r0 id0 (by omega) h2
    have : i = i0 := by omega
    subst this
    rw [hm] at h2
    simp only [Option.some.injEq, Prod.mk.injEq] at h2
    rw [h2.1, h2.2]
theorem nxt_none {l : List Int} : nxt mg l = none ↔ ∀ i, i + 1 < l.length → mg (l.getD i 0) (l.getD (i + 1) 0) = none := by
  unfold nxt
  rw [bst_none]
  exact ⟨fun h i hi => h i (by omega), fun h i hi => h i (by omega)⟩
theorem nxt_some {l : List Int} {r : Int} {i : Nat} {id : Int} (h : nxt mg l = some (r, i, id)) : i + 1 < l.length ∧ mg (l.getD i 0) (l.getD (i + 1) 0) = some (r, id) := by
  obtain ⟨h1, h2, _⟩ := bst_some h
  exact ⟨by omega, h2⟩

theorem put_len {l : List Int} {i : Nat} (id : Int) (h : i + 1 < l.length) : (put l i id).length + 1 = l.length := by
  unfold put
  simp
  omega

theorem jn_more : ∀ (n : Nat) (l : List Int), l.length ≤ n → ∀ m, l.length ≤ m → jn mg n l = jn mg m l
  | 0, l, h, m, hm => by
    have : l = [] := List.eq_nil_of_length_eq_zero (by omega)
    subst this
    cases m with
    | zero => rfl
    | succ m => simp [jn, nxt, bst]
  | n + 1, l, h, m, hm => by
    cases m with
    | zero =>
      have : l = [] := List.eq_nil_of_length_eq_zero (by omega)
      subst this
      simp [jn, nxt, bst]
    | succ m =>
      unfold jn
      cases hn : nxt mg l with
      | none => rfl
      | some x =>
        obtain ⟨r, i, id⟩ := x
        have h1 := put_len id (nxt_some hn).1
        exact jn_more n _ (by omega) m (by omega)
theorem joined_step {l : List Int} {r : Int} {i : Nat} {id : Int} (h : nxt mg l = some (r, i, id)) : joined mg l = joined mg (put l i id) := by
  have h1 := put_len id (nxt_some h).1
  unfold joined
  rw [← h1]
  conv => lhs; unfold jn
  rw [h]
theorem joined_done {l : List Int} (h : nxt mg l = none) : joined mg l = l := by
  unfold joined
  cases hl : l.length with
  | zero => rfl
  | succ n => unfold jn; rw [h]
theorem joined_ind {P : List Int → Prop} (hs : ∀ l r i id, P l → nxt mg l = some (r, i, id) → P (put l i id)) : ∀ (n : Nat) (l : List Int), l.length ≤ n → P l → P (joined mg l)
  | n, l, hn, h => by
    cases hx : nxt mg l with
    | none => rw [joined_done hx]; exact h
    | some x =>
      obtain ⟨r, i, id⟩ := x
      have h1 := put_len id (nxt_some hx).1
      rw [joined_step hx]
      match n with
      | 0 => omega
      | n + 1 => exact joined_ind hs n _ (by omega) (hs _ _ _ _ h hx)
end

/-! ### A heap of pairs -/
structure Pr where
  rank : Int
  left : Int
  right : Int
  a : Int
  b : Int
  id : Int
deriving DecidableEq

instance : Inhabited Pr := ⟨⟨0, 0, 0, 0, 0, 0⟩⟩

def before (x y : Pr) : Prop := x.rank < y.rank ∨ (x.rank = y.rank ∧ x.left < y.left)
instance (x y : Pr) : Decidable (before x y) := by unfold before; infer_instance
/-- y is not ahead of x. -/
def le (x y : Pr) : Prop := ¬ before y x
theorem le_refl (x : Pr) : le x x := by unfold le before; omega
theorem le_trans {x y z : Pr} (h : le x y) (k : le y z) : le x z := by unfold le before at *; omega
theorem le_of_before {x y : Pr} (h : before x y) : le x y := by unfold le before at *; omega

/-- What stands at a place. -/
abbrev g (l : List Pr) (k : Nat) : Pr := l.getD k default
theorem g_set (l : List Pr) (i k : Nat) (x : Pr) (hi : i < l.length) : g (l.set i x) k = if i = k then x else g l k := by
  unfold g
  rw [List.getD_eq_getElem?_getD, List.getElem?_set]
  by_cases h : i = k
  · subst h; simp [hi]
  · simp [h]
def swap (l : List Pr) (i j : Nat) : List Pr := (l.set i (g l j)).set j (g l i)
theorem g_swap (l : List Pr) (i j k : Nat) (hi : i < l.length) (hj : j < l.length) : g (swap l i j) k = if k = j then g l i else if k = i then g l j else g l k := by
  unfold swap
  rw [g_set _ _ _ _ (by simpa using hj), g_set _ _ _ _ hi]
  by_cases h1 : j = k
  · rw [if_pos h1, if_pos h1.symm]
  · rw [if_neg h1, if_neg (Ne.symm h1)]
    by_cases h2 : i = k
    · rw [if_pos h2, if_pos h2.symm]
    · rw [if_neg h2, if_neg (Ne.symm h2)]
theorem swap_len (l : List Pr) (i j : Nat) : (swap l i j).length = l.length := by simp [swap]
theorem g_mem {l : List Pr} {k : Nat} (h : k < l.length) : g l k ∈ l := by
  unfold g
  rw [List.getD_eq_getElem?_getD, List.getElem?_eq_getElem h]
  exact List.getElem_mem h
theorem mem_g {l : List Pr} {x : Pr} : x ∈ l ↔ ∃ k, k < l.length ∧ g l k = x := by
  constructor
  · intro h
    obtain ⟨k, hk, rfl⟩ := List.getElem_of_mem h
    exact ⟨k, hk, by unfold g; rw [List.getD_eq_getElem?_getD, List.getElem?_eq_getElem hk]; rfl⟩
  · rintro ⟨k, hk, rfl⟩
    exact g_mem hk
theorem mem_swap {l : List Pr} {i j : Nat} (hi : i < l.length) (hj : j < l.length) (x : Pr) : x ∈ swap l i j ↔ x ∈ l := by
  rw [mem_g, mem_g, swap_len]
  constructor
  · rintro ⟨k, hk, rfl⟩
    rw [g_swap l i j k hi hj]
    split
    · exact ⟨i, hi, rfl⟩
    · split
      · exact ⟨j, hj, rfl⟩
      · exact ⟨k, hk, rfl⟩
  · rintro ⟨k, hk, rfl⟩
    by_cases h1 : k = i
    · subst h1
      exact ⟨j, hj, by rw [g_swap l k j j hk hj]; simp⟩
    · by_cases h2 : k = j
      · subst h2
        exact ⟨i, hi, by rw [g_swap l i k i hi hk]; split <;> simp_all⟩
      · exact ⟨k, hk, by rw [g_swap l i j k hi hj]; simp [h1, h2]⟩

def Hp (l : List Pr) : Prop := ∀ k, 0 < k → k < l.length → le (g l ((k - 1) / 2)) (g l k)
theorem Hp.least {l : List Pr} (h : Hp l) : ∀ (n k : Nat), k ≤ n → k < l.length → le (g l 0) (g l k)
  | n, 0, _, _ => le_refl _
  | 0, k + 1, hn, _ => by omega
  | n + 1, k + 1, hn, hk => le_trans (Hp.least h n ((k + 1 - 1) / 2) (by omega) (by omega)) (h (k + 1) (by omega) hk)

structure Up (l : List Pr) (i : Nat) : Prop where
  lt : i < l.length
  h : ∀ k, 0 < k → k < l.length → k ≠ i → le (g l ((k - 1) / 2)) (g l k)
  c : ∀ k, 0 < i → 0 < k → k < l.length → (k - 1) / 2 = i → le (g l ((i - 1) / 2)) (g l k)
theorem Up.stop {l : List Pr} {i : Nat} (h : Up l i) (hs : i = 0 ∨ ¬ before (g l i) (g l ((i - 1) / 2))) : Hp l := fun k h0 hk => by
  by_cases hki : k = i
  · subst hki
    rcases hs with hs | hs
    · omega
    · exact hs
  · exact h.h k h0 hk hki
theorem Up.step {l : List Pr} {i : Nat} (h : Up l i) (h0 : 0 < i) (hb : before (g l i) (g l ((i - 1) / 2))) : Up (swap l i ((i - 1) / 2)) ((i - 1) / 2) := by
  have hp : (i - 1) / 2 < l.length := by have := h.lt; omega
  refine ⟨by rw [swap_len]; exact hp, fun k hk hkl hne => ?_, fun k hi hk hkl hp2 => ?_⟩
  · rw [swap_len] at hkl
    rw [g_swap _ _ _ _ h.lt hp, g_swap _ _ _ _ h.lt hp]
    rw [if_neg hne]
    by_cases h1 : k = i
    · subst h1
      simp only [if_true]
      exact le_of_before hb
    · rw [if_neg h1]
      by_cases h2 : (k - 1) / 2 = (i - 1) / 2
      · rw [if_pos h2]
        have h3 := h.h k hk hkl h1
        rw [h2] at h3
        exact le_trans (le_of_before hb) h3
      · rw [if_neg h2]
        by_cases h3 : (k - 1) / 2 = i
        · rw [if_pos h3]
          exact h.c k h0 hk hkl h3
        · rw [if_neg h3]
          exact h.h k hk hkl h1
  · rw [swap_len] at hkl
    rw [g_swap _ _ _ _ h.lt hp, g_swap _ _ _ _ h.lt hp]
    rw [if_neg (by omega), if_neg (by omega)]
    have h3 := h.h ((i - 1) / 2) (by omega) hp (by omega)
    rw [if_neg (by omega)]
    by_cases h1 : k = i
    · rw [if_pos h1]
      exact h3
    · rw [if_neg h1]
      have h4 := h.h k hk hkl h1
      rw [hp2] at h4
      exact le_trans h3 h4

structure Dn (l : List Pr) (i : Nat) : Prop where
  h : ∀ k, 0 < k → k < l.length → (k - 1) / 2 ≠ i → le (g l ((k - 1) / 2)) (g l k)
  c : ∀ k, 0 < i → 0 < k → k < l.length → (k - 1) / 2 = i → le (g l ((i - 1) / 2)) (g l k)
/-- The least of a place and those below it. -/
def low1 (l : List Pr) (i : Nat) : Nat := if 2 * i + 1 < l.length ∧ before (g l (2 * i + 1)) (g l i) then 2 * i + 1 else i
def low2 (l : List Pr) (i : Nat) : Nat := if 2 * i + 2 < l.length ∧ before (g l (2 * i + 2)) (g l (low1 l i)) then 2 * i + 2 else low1 l i
theorem low_spec (l : List Pr) (i : Nat) (hi : i < l.length) : (low2 l i = i ∨ ((low2 l i - 1) / 2 = i ∧ 0 < low2 l i ∧ before (g l (low2 l i)) (g l i))) ∧ low2 l i < l.length ∧ le (g l (low2 l i)) (g l i) ∧ ∀ k, 0 < k → k < l.length → (k - 1) / 2 = i → le (g l (low2 l i)) (g l k) := by
  have a1 : le (g l (low1 l i)) (g l i) ∧ (2 * i + 1 < l.length → le (g l (low1 l i)) (g l (2 * i + 1))) ∧ low1 l i < l.length ∧ (low1 l i = i ∨ (low1 l i = 2 * i + 1 ∧ before (g l (low1 l i)) (g l i))) := by
    unfold low1
    split
    · rename_i h
      exact ⟨le_of_before h.2, fun _ => le_refl _, h.1, .inr ⟨rfl, h.2⟩⟩
    · rename_i h
      exact ⟨le_refl _, fun h1 h2 => h ⟨h1, h2⟩, hi, .inl rfl⟩
  obtain ⟨b1, b2, b3, b4⟩ := a1
  unfold low2
  split
  · rename_i h
    have h5 := le_of_before h.2
    refine ⟨.inr ⟨by omega, by omega, ?_⟩, h.1, le_trans h5 b1, fun k h0 hk hp => ?_⟩
    · have := h.2
      unfold le at b1
      unfold before at *
      omega
    · rcases (show k = 2 * i + 1 ∨ k = 2 * i + 2 by omega) with rfl | rfl
      · exact le_trans h5 (b2 hk)
      · exact le_refl _
  · rename_i h
    refine ⟨?_, b3, b1, fun k h0 hk hp => ?_⟩
    · rcases b4 with h6 | h6
      · exact .inl h6
      · exact .inr ⟨by omega, by omega, h6.2⟩
    · rcases (show k = 2 * i + 1 ∨ k = 2 * i + 2 by omega) with rfl | rfl
      · exact b2 hk
      · exact fun h7 => h ⟨hk, h7⟩
theorem Dn.stop {l : List Pr} {i : Nat} (h : Dn l i) (hi : i < l.length) (hs : low2 l i = i) : Hp l := fun k h0 hk => by
  by_cases hp : (k - 1) / 2 = i
  · have := (low_spec l i hi).2.2.2 k h0 hk hp
    rw [hs] at this
    rw [hp]
    exact this
  · exact h.h k h0 hk hp
theorem Dn.step {l : List Pr} {i : Nat} (h : Dn l i) (hi : i < l.length) (hs : low2 l i ≠ i) : Dn (swap l i (low2 l i)) (low2 l i) := by
  obtain ⟨s1, s2, s3, s4⟩ := low_spec l i hi
  generalize low2 l i = j at *
  have s1' : (j - 1) / 2 = i ∧ 0 < j ∧ before (g l j) (g l i) := by
    rcases s1 with h | h
    · exact absurd h hs
    · exact h
  refine ⟨fun k hk hkl hne => ?_, fun k hj hk hkl hp => ?_⟩
  · rw [swap_len] at hkl
    rw [g_swap _ _ _ _ hi s2, g_swap _ _ _ _ hi s2]
    rw [if_neg hne]
    by_cases h1 : (k - 1) / 2 = i
    · rw [if_pos h1]
      by_cases h2 : k = j
      · rw [if_pos h2]
        exact s3
      · rw [if_neg h2, if_neg (by omega)]
        exact s4 k hk hkl h1
    · rw [if_neg h1, if_neg (by omega)]
      by_cases h2 : k = i
      · rw [if_pos h2]
        subst h2
        exact h.c j (by omega) (by omega) s2 s1'.1
      · rw [if_neg h2]
        exact h.h k hk hkl h1
  · rw [swap_len] at hkl
    rw [g_swap _ _ _ _ hi s2, g_swap _ _ _ _ hi s2]
    rw [s1'.1, if_neg (by omega), if_pos rfl, if_neg (by omega), if_neg (by omega)]
    have h3 := h.h k hk hkl (by omega)
    rw [hp] at h3
    exact h3

/-- One more, put behind. -/
theorem Up.begin {l : List Pr} (h : Hp l) (x : Pr) : Up (l ++ [x]) l.length := by
  have e : ∀ k, k < l.length → g (l ++ [x]) k = g l k := fun k hk => by
    unfold g
    rw [List.getD_eq_getElem?_getD, List.getElem?_append_left hk, ← List.getD_eq_getElem?_getD]
  refine ⟨by simp, fun k hk hkl hne => ?_, fun k hi hk hkl hp => ?_⟩
  · simp at hkl
    rw [e _ (by omega), e _ (by omega)]
    exact h k hk (by omega)
  · simp at hkl
    omega

/-- The first one is taken out: the last one stands in its place. -/
def pop (l : List Pr) : List Pr := (l.set 0 (g l (l.length - 1))).take (l.length - 1)
theorem pop_len (l : List Pr) : (pop l).length = l.length - 1 := by simp [pop]
theorem g_pop (l : List Pr) (k : Nat) (hk : k < l.length - 1) : g (pop l) k = if k = 0 then g l (l.length - 1) else g l k := by
  have h := g_set l 0 k (g l (l.length - 1)) (by omega)
  unfold pop g at *
  rw [List.getD_eq_getElem?_getD, List.getElem?_take, if_pos hk, ← List.getD_eq_getElem?_getD, h]
  by_cases h0 : k = 0
  · simp [h0]
  · simp [h0, Ne.symm h0]
theorem Dn.begin {l : List Pr} (h : Hp l) : Dn (pop l) 0 := by
  refine ⟨fun k hk hkl hne => ?_, fun k hi => by omega⟩
  rw [pop_len] at hkl
  rw [g_pop _ _ (by omega), g_pop _ _ hkl, if_neg hne, if_neg (by omega)]
  exact h k hk (by omega)
theorem mem_pop {l : List Pr} {x : Pr} (hx : x ∈ pop l) : x ∈ l := by
  obtain ⟨k, hk, rfl⟩ := mem_g.1 hx
  rw [pop_len] at hk
  rw [g_pop _ _ hk]
  split
  · exact g_mem (by omega)
  · exact g_mem (by omega)
theorem pop_mem {l : List Pr} {x : Pr} (hx : x ∈ l) (hne : x ≠ g l 0) : x ∈ pop l := by
  obtain ⟨k, hk, rfl⟩ := mem_g.1 hx
  have h0 : k ≠ 0 := fun h => hne (by rw [h])
  by_cases h1 : k = l.length - 1
  · refine mem_g.2 ⟨0, by rw [pop_len]; omega, ?_⟩
    rw [g_pop _ _ (by omega), if_pos rfl, ← h1]
  · refine mem_g.2 ⟨k, by rw [pop_len]; omega, ?_⟩
    rw [g_pop _ _ (by omega), if_neg h0]

/-! ### What the program keeps -/
section
variable (mg : Int → Int → Option (Int × Int))

/-- n places of which L stand there yet; their ids; the pairs that were looked at. -/
structure Inv (n : Nat) (ids : Nat → Int) (L : List Nat) (H : List Pr) : Prop where
  srt : L.Pairwise (· < ·)
  lt : ∀ i ∈ L, i < n
  has : ∀ A i j B r id, L = A ++ i :: j :: B → mg (ids i) (ids j) = some (r, id) → (⟨r, i, j, ids i, ids j, id⟩ : Pr) ∈ H
  ok : ∀ x ∈ H, mg x.a x.b = some (x.rank, x.id) ∧ ∃ i j : Nat, x.left = i ∧ x.right = j ∧ i < n ∧ j < n

def ups (ids : Nat → Int) (i : Nat) (v : Int) : Nat → Int := fun k => if k = i then v else ids k

variable {mg} {n : Nat} {ids : Nat → Int} {L : List Nat} {H : List Pr}

theorem getD_map_mid {A B : List Nat} {i : Nat} (f : Nat → Int) : ((A ++ i :: B).map f).getD A.length 0 = f i := by
  rw [List.getD_eq_getElem?_getD, List.getElem?_map, List.getElem?_append_right (Nat.le_refl _)]
  simp
theorem at_pair {L : List Nat} {q : Nat} (h : q + 1 < L.length) : ∃ (A : List Nat) (i j : Nat) (B : List Nat), L = A ++ i :: j :: B ∧ A.length = q := by
  refine ⟨L.take q, L[q]'(by omega), L[q + 1], L.drop (q + 2), ?_, by simp; omega⟩
  have e1 : L.drop q = L[q] :: L.drop (q + 1) := List.drop_eq_getElem_cons (by omega)
  have e2 : L.drop (q + 1) = L[q + 1] :: L.drop (q + 2) := List.drop_eq_getElem_cons h
  rw [← e2, ← e1, List.take_append_drop]

theorem Inv.none (h : Inv mg n ids L []) : nxt mg (L.map ids) = Option.none := by
  rw [nxt_none]
  intro q hq
  obtain ⟨A, i, j, B, rfl, rfl⟩ := at_pair (by simpa using hq : q + 1 < L.length)
  rw [getD_map_mid, show A ++ i :: j :: B = (A ++ [i]) ++ j :: B by simp, show A.length + 1 = (A ++ [i]).length by simp, getD_map_mid]
  cases hm : mg (ids i) (ids j) with
  | none => rfl
  | some x => exact absurd (h.has A i j B x.1 x.2 rfl hm) (by simp)

/-- A pair that is out of date is let go. -/
theorem Inv.skip (h : Inv mg n ids L H) {x : Pr} {H' : List Pr} (hin : ∀ y, y ∈ H' → y ∈ H) (hall : ∀ y ∈ H, y ≠ x → y ∈ H')
    (hx : ¬ ∃ (A : List Nat) (i j : Nat) (B : List Nat), L = A ++ i :: j :: B ∧ x.left = i ∧ x.right = j ∧ x.a = ids i ∧ x.b = ids j) : Inv mg n ids L H' :=
  ⟨h.srt, h.lt, fun A i j B r id hL hm => hall _ (h.has A i j B r id hL hm) (fun e => hx ⟨A, i, j, B, hL, by rw [← e], by rw [← e], by rw [← e], by rw [← e]⟩), fun y hy => h.ok y (hin y hy)⟩

theorem Inv.next (h : Inv mg n ids L H) {x : Pr} (hx : x ∈ H) (hmin : ∀ y ∈ H, le x y) {A B : List Nat} {i j : Nat} (hL : L = A ++ i :: j :: B) (hl : x.left = i) (ha : x.a = ids i) (hb : x.b = ids j) :
    nxt mg (L.map ids) = some (x.rank, A.length, x.id) ∧ put (L.map ids) A.length x.id = (A ++ i :: B).map (ups ids i x.id) := by
  have hm := (h.ok x hx).1
  rw [ha, hb] at hm
  have hs := h.srt
  subst hL
  constructor
  · refine nxt_eq (by simp) ?_ ?_
    · rw [getD_map_mid, show A ++ i :: j :: B = (A ++ [i]) ++ j :: B by simp, show A.length + 1 = (A ++ [i]).length by simp, getD_map_mid]
      exact hm
    · intro q r' id' hq hmq
      obtain ⟨A', i', j', B', hL', rfl⟩ := at_pair (by simpa using hq : q + 1 < (A ++ i :: j :: B).length)
      have hin := h.has A' i' j' B' r' id' hL' (by
        rw [hL', getD_map_mid, show A' ++ i' :: j' :: B' = (A' ++ [i']) ++ j' :: B' by simp, show A'.length + 1 = (A' ++ [i']).length by simp, getD_map_mid] at hmq
        exact hmq)
      have hle := hmin _ hin
      unfold le before at hle
      simp only [hl] at hle
      rcases Int.lt_or_le x.rank r' with h1 | h1
      · exact .inl h1
      · refine .inr ⟨by omega, ?_⟩
        have hii : i ≤ i' := by omega
        rcases Nat.lt_or_ge A'.length A.length with h2 | h2
        · exfalso
          have h3 : (A ++ i :: j :: B)[A'.length]? = some i' := by rw [hL']; simp
          rw [List.getElem?_append_left h2] at h3
          have h4 : i' ∈ A := List.mem_of_getElem? h3
          have := (List.pairwise_append.1 hs).2.2 i' h4 i (by simp)
          omega
        · exact h2
  · obtain ⟨h1, h2, h3⟩ := List.pairwise_append.1 hs
    have hA : ∀ k ∈ A, k ≠ i := fun k hk e => by have := h3 k hk i (by simp); omega
    have hB : ∀ k ∈ B, k ≠ i := fun k hk e => by
      have := (List.pairwise_cons.1 h2).1 k (by simp [hk])
      omega
    unfold put
    simp only [List.map_append, List.map_cons]
    rw [List.take_left' (by simp), List.drop_append]
    simp only [List.length_map]
    rw [List.drop_eq_nil_of_le (by simp)]
    simp only [Nat.add_sub_cancel_left, List.drop_succ_cons, List.drop_zero, List.nil_append]
    have eA : A.map (ups ids i x.id) = A.map ids := List.map_congr_left fun k hk => by unfold ups; rw [if_neg (hA k hk)]
    have eB : B.map (ups ids i x.id) = B.map ids := List.map_congr_left fun k hk => by unfold ups; rw [if_neg (hB k hk)]
    rw [eA, eB]
    congr 2
    unfold ups
    rw [if_pos rfl]

/-- What two neighbours are put in as, if they have a merge. -/
def Put (mg : Int → Int → Option (Int × Int)) (ids : Nat → Int) (i j : Nat) (H H' : List Pr) : Prop :=
  match mg (ids i) (ids j) with
  | .none => ∀ y, y ∈ H' ↔ y ∈ H
  | .some (r, id) => ∀ y, y ∈ H' ↔ y ∈ H ∨ y = ⟨r, i, j, ids i, ids j, id⟩
theorem Put.old {i j : Nat} {H H' : List Pr} (h : Put mg ids i j H H') {y : Pr} (hy : y ∈ H) : y ∈ H' := by
  unfold Put at h
  split at h
  · exact (h y).2 hy
  · exact (h y).2 (.inl hy)
theorem Put.new {i j : Nat} {H H' : List Pr} (h : Put mg ids i j H H') {r id : Int} (hm : mg (ids i) (ids j) = some (r, id)) : (⟨r, i, j, ids i, ids j, id⟩ : Pr) ∈ H' := by
  unfold Put at h
  rw [hm] at h
  exact (h _).2 (.inr rfl)
theorem Put.ok {i j : Nat} {H H' : List Pr} (h : Put mg ids i j H H') (hi : i < n) (hj : j < n) (hok : ∀ x ∈ H, mg x.a x.b = some (x.rank, x.id) ∧ ∃ i j : Nat, x.left = i ∧ x.right = j ∧ i < n ∧ j < n) :
    ∀ x ∈ H', mg x.a x.b = some (x.rank, x.id) ∧ ∃ i j : Nat, x.left = i ∧ x.right = j ∧ i < n ∧ j < n := by
  intro x hx
  unfold Put at h
  split at h
  · exact hok x ((h x).1 hx)
  · rename_i r id hm
    rcases (h x).1 hx with h1 | rfl
    · exact hok x h1
    · exact ⟨hm, i, j, rfl, rfl, hi, hj⟩

/-- The merge is done: its neighbours are looked at. -/
theorem Inv.step (h : Inv mg n ids L H) {x : Pr} {H1 H2 H3 : List Pr} (hin : ∀ y, y ∈ H1 → y ∈ H) (hall : ∀ y ∈ H, y ≠ x → y ∈ H1) {A B : List Nat} {i j : Nat} (hL : L = A ++ i :: j :: B) (hl : x.left = i)
    (h2 : (A = [] ∧ H2 = H1) ∨ ∃ A' p, A = A' ++ [p] ∧ Put mg (ups ids i x.id) p i H1 H2) (h3 : (B = [] ∧ H3 = H2) ∨ ∃ q B', B = q :: B' ∧ Put mg (ups ids i x.id) i q H2 H3) :
    Inv mg n (ups ids i x.id) (A ++ i :: B) H3 := by
  have hs := h.srt
  have hlt := h.lt
  subst hL
  obtain ⟨p1, p2, p3⟩ := List.pairwise_append.1 hs
  have p4 := List.pairwise_cons.1 p2
  have p5 := List.pairwise_cons.1 p4.2
  have hA : ∀ k ∈ A, k ≠ i := fun k hk e => by have := p3 k hk i (by simp); omega
  have hB : ∀ k ∈ B, k ≠ i := fun k hk e => by have := p4.1 k (by simp [hk]); omega
  have hin3 : ∀ y, y ∈ H1 → y ∈ H3 := by
    intro y hy
    have a2 : y ∈ H2 := by
      rcases h2 with ⟨_, rfl⟩ | ⟨_, _, _, hp⟩
      · exact hy
      · exact hp.old hy
    rcases h3 with ⟨_, rfl⟩ | ⟨_, _, _, hp⟩
    · exact a2
    · exact hp.old a2
  refine ⟨?_, ?_, ?_, ?_⟩
  · refine List.pairwise_append.2 ⟨p1, List.pairwise_cons.2 ⟨fun k hk => p4.1 k (by simp [hk]), p5.2⟩, fun a ha b hb => p3 a ha b ?_⟩
    rcases List.mem_cons.1 hb with rfl | hb
    · simp
    · simp [hb]
  · intro k hk
    refine hlt k ?_
    simp only [List.mem_append, List.mem_cons] at hk ⊢
    rcases hk with hk | hk | hk <;> simp [hk]
  · intro A0 i0 j0 B0 r id hL0 hm
    -- where the pair stands
    have key : (∃ C, A = A0 ++ i0 :: j0 :: C) ∨ (A = A0 ++ [i0] ∧ j0 = i) ∨ (A0 = A ∧ i0 = i ∧ B = j0 :: B0) ∨ ∃ C, B = C ++ i0 :: j0 :: B0 := by
      rcases List.append_eq_append_iff.1 hL0 with ⟨C, h1, h2⟩ | ⟨C, h1, h2⟩
      · cases C with
        | nil =>
          simp only [List.nil_append, List.cons.injEq] at h2
          exact .inr (.inr (.inl ⟨by simpa using h1, h2.1.symm, h2.2⟩))
        | cons c C =>
          simp only [List.cons_append, List.cons.injEq] at h2
          exact .inr (.inr (.inr ⟨C, h2.2⟩))
      · cases C with
        | nil =>
          simp only [List.nil_append, List.cons.injEq] at h2
          exact .inr (.inr (.inl ⟨by simpa using h1.symm, h2.1, h2.2.symm⟩))
        | cons c C =>
          simp only [List.cons_append, List.cons.injEq] at h2
          obtain ⟨rfl, h2⟩ := h2
          cases C with
          | nil =>
            simp only [List.nil_append, List.cons.injEq] at h2
            exact .inr (.inl ⟨h1, h2.1⟩)
          | cons d C =>
            simp only [List.cons_append, List.cons.injEq] at h2
            obtain ⟨rfl, _⟩ := h2
            exact .inl ⟨C, h1⟩
    have keep : ∀ A1 B1, A ++ i :: j :: B = A1 ++ i0 :: j0 :: B1 → i0 ≠ i → j0 ≠ i → (⟨r, i0, j0, ups ids i x.id i0, ups ids i x.id j0, id⟩ : Pr) ∈ H3 := by
      intro A1 B1 hL1 n1 n2
      have e1 : ups ids i x.id i0 = ids i0 := by unfold ups; rw [if_neg n1]
      have e2 : ups ids i x.id j0 = ids j0 := by unfold ups; rw [if_neg n2]
      rw [e1, e2] at hm ⊢
      refine hin3 _ (hall _ (h.has A1 i0 j0 B1 r id hL1 hm) (fun e => ?_))
      have : ((i0 : Nat) : Int) = i := by rw [← hl, ← e]
      omega
    rcases key with ⟨C, rfl⟩ | ⟨rfl, rfl⟩ | ⟨rfl, rfl, rfl⟩ | ⟨C, rfl⟩
    · exact keep A0 (C ++ i :: j :: B) (by simp) (hA i0 (by simp)) (hA j0 (by simp))
    · rcases h2 with ⟨h, _⟩ | ⟨A', p, hA', hp⟩
      · simp at h
      · obtain ⟨_, h5⟩ := List.append_inj' hA' rfl
        simp only [List.cons.injEq, and_true] at h5
        subst h5
        have h6 := hp.new hm
        rcases h3 with ⟨_, rfl⟩ | ⟨_, _, _, hp3⟩
        · exact h6
        · exact hp3.old h6
    · rcases h3 with ⟨h, _⟩ | ⟨q, B', hB', hp⟩
      · simp at h
      · simp only [List.cons.injEq] at hB'
        obtain ⟨rfl, rfl⟩ := hB'
        exact hp.new hm
    · exact keep (A ++ i :: j :: C) B0 (by simp) (hB i0 (by simp)) (hB j0 (by simp))
  · have o1 : ∀ y ∈ H1, mg y.a y.b = some (y.rank, y.id) ∧ ∃ i j : Nat, y.left = i ∧ y.right = j ∧ i < n ∧ j < n := fun y hy => h.ok y (hin y hy)
    have hi : i < n := hlt i (by simp)
    have o2 : ∀ y ∈ H2, mg y.a y.b = some (y.rank, y.id) ∧ ∃ i j : Nat, y.left = i ∧ y.right = j ∧ i < n ∧ j < n := by
      rcases h2 with ⟨_, rfl⟩ | ⟨A', p, rfl, hp⟩
      · exact o1
      · exact hp.ok (hlt p (by simp)) hi o1
    rcases h3 with ⟨_, rfl⟩ | ⟨q, B', rfl, hp⟩
    · exact o2
    · exact hp.ok hi (hlt q (by simp)) o2
end
end Go.Proofs.YtkjkgpdfhmoenaaDoor.BpeLaw
