/-
  Pure laws of UTF-8: beginnings, tails, replaced texts.
-/
import Derived.Test.YtendkmldecoogaaDoorComp
import Derived.Lib.DecodeNEq
import Derived.Lib.RuneBytes
namespace Go.Proofs.YtendkmldecoogaaDoor.UtfLaw
open Go Go.Lib Go.Proofs.YtendkmldecoogaaDoor.Utf Go.Proofs.YtendkmldecoogaaDoor.It Go.Proofs.YtendkmldecoogaaDoor.Ref2c

/-- Bytes that could be the beginning of a sequence, and are none. -/
def BegP (l : List UInt8) : Prop := 0 < l.length ∧ l.length < need (by' l 0) ∧ (1 < l.length → ok l 1 = true) ∧ (2 < l.length → ok l 2 = true)
instance (l : List UInt8) : Decidable (BegP l) := by unfold BegP; infer_instance

set_option maxHeartbeats 4000000 in
theorem full_num (n b0 b1 b2 : Nat) (h0 : b0 < 256) : (n ≠ 0 ∧ (firstT b0 % 8 ≤ n ∨ (1 < n ∧ (b1 < accLo (firstT b0 / 16) ∨ accHi (firstT b0 / 16) < b1)) ∨ (2 < n ∧ (b2 < 128 ∨ 191 < b2)))) ↔
    n ≠ 0 ∧ ¬ (n < need b0 ∧ (1 < n → second b0 b1 = true) ∧ (2 < n → 128 ≤ b2 ∧ b2 ≤ 191)) := by
  have key : ∀ sz lo hi : Nat, firstT b0 % 8 = sz → accLo (firstT b0 / 16) = lo → accHi (firstT b0 / 16) = hi → (sz = need b0 ∨ (sz ≤ 1 ∧ need b0 = 0)) → (need b0 ≠ 0 → (second b0 b1 = true ↔ lo ≤ b1 ∧ b1 ≤ hi)) →
      ((n ≠ 0 ∧ (firstT b0 % 8 ≤ n ∨ (1 < n ∧ (b1 < accLo (firstT b0 / 16) ∨ accHi (firstT b0 / 16) < b1)) ∨ (2 < n ∧ (b2 < 128 ∨ 191 < b2)))) ↔
    n ≠ 0 ∧ ¬ (n < need b0 ∧ (1 < n → second b0 b1 = true) ∧ (2 < n → 128 ≤ b2 ∧ b2 ≤ 191))) := by
    rintro sz lo hi rfl rfl rfl h1 h2
    by_cases hn : need b0 = 0
    · omega
    · have h3 := h2 hn
      by_cases hs : second b0 b1 = true
      · have := h3.1 hs
        simp only [hs, implies_true, true_and]
        omega
      · have : ¬ (accLo (firstT b0 / 16) ≤ b1 ∧ b1 ≤ accHi (firstT b0 / 16)) := fun h => hs (h3.2 h)
        simp only [hs, Bool.false_eq_true, imp_false]
        omega
  rcases (show b0 < 128 ∨ 128 ≤ b0 ∧ b0 < 194 ∨ 194 ≤ b0 ∧ b0 < 224 ∨ b0 = 224 ∨ (225 ≤ b0 ∧ b0 < 237 ∨ 238 ≤ b0 ∧ b0 < 240) ∨ b0 = 237 ∨ b0 = 240 ∨ 241 ≤ b0 ∧ b0 < 244 ∨ b0 = 244 ∨ 245 ≤ b0 by omega) with h | h | h | h | h | h | h | h | h | h
  · have hf : firstT b0 = 240 := by
      unfold firstT
      repeat' split
      all_goals omega
    have hn : need b0 = 0 := by unfold need; (repeat' split) <;> omega
    exact key 0 0 0 (by rw [hf]) (by rw [hf]; simp [accLo]) (by rw [hf]; simp [accHi]) (.inr ⟨by omega, hn⟩) (fun h => absurd hn h)
  · have hf : firstT b0 = 241 := by
      unfold firstT
      repeat' split
      all_goals omega
    have hn : need b0 = 0 := by unfold need; (repeat' split) <;> omega
    exact key 1 0 0 (by rw [hf]) (by rw [hf]; simp [accLo]) (by rw [hf]; simp [accHi]) (.inr ⟨by omega, hn⟩) (fun h => absurd hn h)
  · have hf : firstT b0 = 2 := by
      unfold firstT
      repeat' split
      all_goals omega
    have hn : need b0 = 2 := by unfold need; (repeat' split) <;> omega
    refine key 2 128 191 (by rw [hf]) (by rw [hf]; simp [accLo]) (by rw [hf]; simp [accHi]) (.inl (by omega)) (fun _ => ?_)
    unfold second
    rw [decide_eq_true_eq]
    repeat' split
    all_goals omega
  · have hf : firstT b0 = 19 := by
      unfold firstT
      repeat' split
      all_goals omega
    have hn : need b0 = 3 := by unfold need; (repeat' split) <;> omega
    refine key 3 160 191 (by rw [hf]) (by rw [hf]; simp [accLo]) (by rw [hf]; simp [accHi]) (.inl (by omega)) (fun _ => ?_)
    unfold second
    rw [decide_eq_true_eq]
    repeat' split
    all_goals omega
  · have hf : firstT b0 = 3 := by
      unfold firstT
      repeat' split
      all_goals omega
    have hn : need b0 = 3 := by unfold need; (repeat' split) <;> omega
    refine key 3 128 191 (by rw [hf]) (by rw [hf]; simp [accLo]) (by rw [hf]; simp [accHi]) (.inl (by omega)) (fun _ => ?_)
    unfold second
    rw [decide_eq_true_eq]
    repeat' split
    all_goals omega
  · have hf : firstT b0 = 35 := by
      unfold firstT
      repeat' split
      all_goals omega
    have hn : need b0 = 3 := by unfold need; (repeat' split) <;> omega
    refine key 3 128 159 (by rw [hf]) (by rw [hf]; simp [accLo]) (by rw [hf]; simp [accHi]) (.inl (by omega)) (fun _ => ?_)
    unfold second
    rw [decide_eq_true_eq]
    repeat' split
    all_goals omega
  · have hf : firstT b0 = 52 := by
      unfold firstT
      repeat' split
      all_goals omega
    have hn : need b0 = 4 := by unfold need; (repeat' split) <;> omega
    refine key 4 144 191 (by rw [hf]) (by rw [hf]; simp [accLo]) (by rw [hf]; simp [accHi]) (.inl (by omega)) (fun _ => ?_)
    unfold second
    rw [decide_eq_true_eq]
    repeat' split
    all_goals omega
  · have hf : firstT b0 = 4 := by
      unfold firstT
      repeat' split
      all_goals omega
    have hn : need b0 = 4 := by unfold need; (repeat' split) <;> omega
    refine key 4 128 191 (by rw [hf]) (by rw [hf]; simp [accLo]) (by rw [hf]; simp [accHi]) (.inl (by omega)) (fun _ => ?_)
    unfold second
    rw [decide_eq_true_eq]
    repeat' split
    all_goals omega
  · have hf : firstT b0 = 68 := by
      unfold firstT
      repeat' split
      all_goals omega
    have hn : need b0 = 4 := by unfold need; (repeat' split) <;> omega
    refine key 4 128 143 (by rw [hf]) (by rw [hf]; simp [accLo]) (by rw [hf]; simp [accHi]) (.inl (by omega)) (fun _ => ?_)
    unfold second
    rw [decide_eq_true_eq]
    repeat' split
    all_goals omega
  · have hf : firstT b0 = 241 := by
      unfold firstT
      repeat' split
      all_goals omega
    have hn : need b0 = 0 := by unfold need; (repeat' split) <;> omega
    exact key 1 0 0 (by rw [hf]) (by rw [hf]; simp [accLo]) (by rw [hf]; simp [accHi]) (.inr ⟨by omega, hn⟩) (fun h => absurd hn h)

/-- Bytes that begin a text are such a beginning. -/
theorem beg_take (l : List UInt8) (k : Nat) (h1 : 1 ≤ k) (h2 : k ≤ l.length) : BegP (l.take k) ↔ k < need (by' l 0) ∧ (1 < k → ok l 1 = true) ∧ (2 < k → ok l 2 = true) := by
  have hl : (l.take k).length = k := by simp; omega
  have hb : ∀ j, j < k → by' (l.take k) j = by' l j := fun j hj => by
    unfold by'
    simp only [List.getD]
    rw [List.getElem?_take_of_lt hj]
  have ho1 : 1 < k → ok (l.take k) 1 = ok l 1 := fun h => by unfold ok; rw [if_pos rfl, if_pos rfl, hb 0 (by omega), hb 1 h]
  have ho2 : 2 < k → ok (l.take k) 2 = ok l 2 := fun h => by unfold ok; rw [if_neg (by omega), if_neg (by omega), hb 2 h]
  unfold BegP
  rw [hl, hb 0 (by omega)]
  constructor
  · rintro ⟨_, h3, h4, h5⟩
    exact ⟨h3, fun h => by rw [← ho1 h]; exact h4 h, fun h => by rw [← ho2 h]; exact h5 h⟩
  · rintro ⟨h3, h4, h5⟩
    exact ⟨by omega, h3, fun h => by rw [ho1 h]; exact h4 h, fun h => by rw [ho2 h]; exact h5 h⟩

theorem need_le4 (c : Nat) : need c = 0 ∨ (2 ≤ need c ∧ need c ≤ 4 ∧ 194 ≤ c) := by
  unfold need
  repeat' split
  all_goals omega
theorem fits_lt (l : List UInt8) (most n : Nat) (hm : most ≤ 4) (h1 : 1 ≤ n) : n < fits l most ↔ n < most ∧ n < l.length ∧ ∀ k, 1 ≤ k → k ≤ n → ok l k = true := by
  constructor
  · intro h
    refine ⟨(fitsF_ok 4 1 n h1 h).2.2, (fitsF_ok 4 1 n h1 h).2.1, fun k k1 k2 => (fitsF_ok 4 1 k k1 (Nat.lt_of_le_of_lt k2 h)).1⟩
  · rintro ⟨h2, h3, h4⟩
    have o1 := h4 1 (by omega) h1
    unfold fits
    simp only [fitsF]
    rw [if_pos ⟨by omega, by omega⟩, if_pos o1]
    by_cases c1 : 1 + 1 < most ∧ 1 + 1 < l.length
    · rw [if_pos c1]
      by_cases n2 : 2 ≤ n
      · rw [if_pos (h4 2 (by omega) n2)]
        by_cases c2 : 1 + 1 + 1 < most ∧ 1 + 1 + 1 < l.length
        · rw [if_pos c2]
          by_cases n3 : 3 ≤ n
          · rw [if_pos (h4 3 (by omega) n3)]
            split
            · split <;> omega
            · omega
          · split
            · split
              · split <;> omega
              · omega
            · omega
        · rw [if_neg c2]; omega
      · split
        · split
          · split
            · split
              · split <;> omega
              · omega
            · omega
          · omega
        · omega
    · rw [if_neg c1]; omega

/-- How many bytes go with a bad one. -/
def badN (l : List UInt8) : Nat := max 1 (begins l)
theorem begins_lt (l : List UInt8) (n : Nat) (h1 : 1 ≤ n) : n < begins l ↔ n + 1 < need (by' l 0) ∧ n < l.length ∧ ∀ k, 1 ≤ k → k ≤ n → ok l k = true := by
  unfold begins
  by_cases h : need (by' l 0) = 0
  · rw [if_pos h]; omega
  · rw [if_neg h, fits_lt l _ n (by have := need_le4 (by' l 0); omega) h1]
    have : n < need (by' l 0) - 1 ↔ n + 1 < need (by' l 0) := by omega
    rw [this]
theorem begins_le {l : List UInt8} (hl : l ≠ []) : begins l ≤ l.length := by
  have h0 : 0 < l.length := List.length_pos_iff.2 hl
  rcases Nat.lt_or_ge l.length (begins l) with h | h
  · have := (begins_lt l l.length h0).1 h
    omega
  · exact h
theorem badN_le {l : List UInt8} (hl : l ≠ []) : 1 ≤ badN l ∧ badN l ≤ l.length := by
  have h0 : 0 < l.length := List.length_pos_iff.2 hl
  have := begins_le hl
  unfold badN
  omega
/-- The loop behind a bad byte goes on just as long. -/
theorem bad_loop {l : List UInt8} {n : Nat} (h1 : 1 ≤ n) (_ : n ≤ badN l) (hl : l ≠ []) : (n < l.length ∧ BegP (l.take n) ∧ BegP (l.take (n + 1))) ↔ n < badN l := by
  have h0 : 0 < l.length := List.length_pos_iff.2 hl
  have hb : n < badN l ↔ n < begins l := by unfold badN; omega
  have hn := need_le4 (by' l 0)
  rw [hb, begins_lt l n h1]
  constructor
  · rintro ⟨g1, g2, g3⟩
    rw [beg_take l n h1 (by omega)] at g2
    rw [beg_take l (n + 1) (by omega) (by omega)] at g3
    refine ⟨g3.1, g1, fun k k1 k2 => ?_⟩
    rcases (show k = 1 ∨ k = 2 by omega) with rfl | rfl
    · exact g3.2.1 (by omega)
    · exact g3.2.2 (by omega)
  · rintro ⟨g1, g2, g3⟩
    refine ⟨g2, (beg_take l n h1 (by omega)).2 ⟨by omega, fun h => g3 1 (by omega) (by omega), fun h => g3 2 (by omega) (by omega)⟩, (beg_take l (n + 1) (by omega) (by omega)).2 ⟨g1, fun h => g3 1 (by omega) (by omega), fun h => g3 2 (by omega) (by omega)⟩⟩

/-! ### Tails -/
theorem beg_held {l : List UInt8} (h : BegP l) : width l = 0 ∧ begins l = l.length := by
  obtain ⟨h1, h2, h3, h4⟩ := h
  have hn := need_le4 (by' l 0)
  have hl : l ≠ [] := List.length_pos_iff.1 h1
  constructor
  · rcases width_cases l with ⟨_, q⟩ | ⟨_, q1, q2, q3, _⟩ | ⟨_, q1, q2, q3, _⟩ | ⟨_, q1, q2, q3, _⟩ | ⟨h, _⟩
    · omega
    · have : need (by' l 0) = 2 := by unfold need; (repeat' split) <;> omega
      omega
    · have : need (by' l 0) = 3 := by unfold need; (repeat' split) <;> omega
      omega
    · have : need (by' l 0) = 4 := by unfold need; (repeat' split) <;> omega
      omega
    · exact h
  · have hle := begins_le hl
    rcases Nat.lt_or_ge (begins l) l.length with h | h
    · have hb1 : 1 ≤ begins l := by
        unfold begins
        rw [if_neg (by omega)]
        rcases Nat.eq_zero_or_pos (fits l (need (by' l 0) - 1)) with hz | hz
        · exfalso
          unfold fits at hz
          simp only [fitsF] at hz
          split at hz
          · split at hz
            · split at hz
              · split at hz
                · split at hz
                  · split at hz
                    · split at hz
                      · split at hz <;> omega
                      · omega
                    · omega
                  · omega
                · omega
              · omega
            · omega
          · omega
        · exact hz
      exfalso
      refine absurd ((begins_lt l (begins l) hb1).2 ⟨by omega, h, fun k k1 k2 => ?_⟩) (Nat.lt_irrefl _)
      rcases (show k = 1 ∨ k = 2 by omega) with rfl | rfl
      · exact h3 (by omega)
      · exact h4 (by omega)
    · omega
theorem held_beg {l : List UInt8} (hl : l ≠ []) (h : begins l = l.length) : BegP l ∧ l.length ≤ 3 := by
  have h0 : 0 < l.length := List.length_pos_iff.2 hl
  have hn := need_le4 (by' l 0)
  have hnz : need (by' l 0) ≠ 0 := fun hz => by
    unfold begins at h
    rw [if_pos hz] at h
    omega
  have hlt : l.length < need (by' l 0) := by
    rcases (show l.length = 1 ∨ 2 ≤ l.length by omega) with h1 | h1
    · omega
    · have := (begins_lt l (l.length - 1) (by omega)).1 (by omega)
      omega
  have ho : ∀ k, 1 ≤ k → k < l.length → ok l k = true := fun k k1 k2 => ((begins_lt l k k1).1 (by omega)).2.2 k k1 (Nat.le_refl _)
  exact ⟨⟨h0, hlt, fun h => ho 1 (by omega) h, fun h => ho 2 (by omega) h⟩, by omega⟩

/-- Where a beginning stands at the end, just there bytes are held. -/
theorem comp_of_beg (l : List UInt8) : ∀ (a m : Nat), 0 < m → m ≤ l.length → BegP (l.drop (l.length - m)) → (comp a l).2 = a + (l.length - m) := by
  induction l using ind with
  | h0 => intro a m h1 h2 _; simp at h2; omega
  | h1 l hl ih =>
    intro a m h1 h2 h3
    by_cases hp : l.length - m = 0
    · rw [hp, List.drop_zero] at h3
      obtain ⟨g1, g2⟩ := beg_held h3
      rw [comp_held g1 g2, hp]
      rfl
    · have hlead : 194 ≤ by' l (l.length - m) := by
        have h4 := h3.2.1
        have h5 := h3.1
        have hb := by_drop l (l.length - m) 0
        rw [Nat.add_zero] at hb
        rw [hb] at h4
        have hn := need_le4 (by' l (l.length - m))
        omega
      have hnh : ¬ (width l = 0 ∧ begins l = l.length) := by
        rintro ⟨_, g⟩
        have := begins_tail (l := l) (k := l.length - m) (by omega) (by omega)
        omega
      have hbl : (one 0 l).bytes ≤ l.length - m := by
        rw [one_bytes]
        rcases width_cases l with ⟨h, q⟩ | ⟨h, q1, q2, q3, q4⟩ | ⟨h, q1, q2, q3, q4, q5⟩ | ⟨h, q1, q2, q3, q4, q5, q6⟩ | ⟨h, _⟩
        · rw [h]; simp; omega
        · rw [h, if_neg (by omega)]
          have r1 := ok_range q4
          rcases (show l.length - m = 1 ∨ 2 ≤ l.length - m by omega) with e | e
          · rw [e] at hlead; omega
          · exact e
        · rw [h, if_neg (by omega)]
          have r1 := ok_range q4
          have r2 := ok_range q5
          rcases (show l.length - m = 1 ∨ l.length - m = 2 ∨ 3 ≤ l.length - m by omega) with e | e | e
          · rw [e] at hlead; omega
          · rw [e] at hlead; omega
          · exact e
        · rw [h, if_neg (by omega)]
          have r1 := ok_range q4
          have r2 := ok_range q5
          have r3 := ok_range q6
          rcases (show l.length - m = 1 ∨ l.length - m = 2 ∨ l.length - m = 3 ∨ 4 ≤ l.length - m by omega) with e | e | e | e
          · rw [e] at hlead; omega
          · rw [e] at hlead; omega
          · rw [e] at hlead; omega
          · exact e
        · rw [h]; simp; omega
      rw [comp_one hl hnh]
      rw [one_bytes_eq a 0]
      simp only
      rw [ih (a + (one 0 l).bytes) m h1 (by rw [List.length_drop]; omega) (by
        rw [List.length_drop, List.drop_drop]
        have e : (one 0 l).bytes + (l.length - (one 0 l).bytes - m) = l.length - m := by omega
        rw [e]
        exact h3), List.length_drop]
      omega

/-- How many bytes at a text's end are a beginning. -/
def tailN (l : List UInt8) : Nat := l.length - (comp 0 l).2
theorem tail_some {l : List UInt8} {m : Nat} (h1 : 0 < m) (h2 : m ≤ l.length) (h3 : BegP (l.drop (l.length - m))) : tailN l = m := by
  unfold tailN
  rw [comp_of_beg l 0 m h1 h2 h3]
  omega
theorem tail_none {l : List UInt8} (h : ∀ m, 0 < m → m ≤ 3 → m ≤ l.length → ¬ BegP (l.drop (l.length - m))) : tailN l = 0 := by
  obtain ⟨g1, g2, g3, g4⟩ := comp_items l 0
  rw [Nat.zero_add] at g2 g4
  rcases Nat.lt_or_ge (comp 0 l).2 l.length with hlt | hge
  · exfalso
    obtain ⟨g5, g6⟩ := g4 hlt
    rw [Nat.sub_zero] at g5 g6
    have hne : l.drop (comp 0 l).2 ≠ [] := fun e => by
      have := congrArg List.length e
      rw [List.length_drop] at this
      simp at this
      omega
    obtain ⟨g7, g8⟩ := held_beg hne g6
    rw [List.length_drop] at g8
    refine h (l.length - (comp 0 l).2) (by omega) (by omega) (by omega) ?_
    rw [show l.length - (l.length - (comp 0 l).2) = (comp 0 l).2 by omega]
    exact g7
  · unfold tailN
    omega

/-! ### Replaced texts -/
def repF : Nat → List UInt8 → List UInt8
  | 0, _ => []
  | f + 1, l => if l = [] then [] else if width l ≠ 0 then l.take (width l) ++ repF f (l.drop (width l)) else [239, 191, 189] ++ repF f (l.drop (badN l))
/-- A text's valid form. -/
def rep (l : List UInt8) : List UInt8 := repF l.length l
theorem repF_more : ∀ (f : Nat) (l : List UInt8), l.length ≤ f → repF f l = repF l.length l
  | 0, l, h => by rw [show l.length = 0 by omega]
  | f + 1, l, h => by
    by_cases hl : l = []
    · subst hl; simp [repF]
    · have h2 : 0 < l.length := List.length_pos_iff.2 hl
      have e : l.length = l.length - 1 + 1 := by omega
      rw [e]
      simp only [repF, if_neg hl]
      have h3 := badN_le hl
      by_cases hw : width l = 0
      · rw [if_neg (by simp [hw]), if_neg (by simp [hw]), repF_more f _ (by rw [List.length_drop]; omega), repF_more (l.length - 1) _ (by rw [List.length_drop]; omega)]
      · rw [if_pos hw, if_pos hw, repF_more f _ (by rw [List.length_drop]; omega), repF_more (l.length - 1) _ (by rw [List.length_drop]; omega)]
theorem rep_nil : rep [] = [] := rfl
theorem rep_good {l : List UInt8} (hw : width l ≠ 0) (hl : l ≠ []) : rep l = l.take (width l) ++ rep (l.drop (width l)) := by
  have h2 : 0 < l.length := List.length_pos_iff.2 hl
  have e : l.length = l.length - 1 + 1 := by omega
  unfold rep
  rw [e]
  simp only [repF, if_neg hl]
  rw [if_pos hw, repF_more (l.length - 1) _ (by rw [List.length_drop]; omega)]
theorem rep_bad {l : List UInt8} (hw : width l = 0) (hl : l ≠ []) : rep l = [239, 191, 189] ++ rep (l.drop (badN l)) := by
  have h2 : 0 < l.length := List.length_pos_iff.2 hl
  have e : l.length = l.length - 1 + 1 := by omega
  have h3 := badN_le hl
  unfold rep
  rw [e]
  simp only [repF, if_neg hl]
  rw [if_neg (by simp [hw]), repF_more (l.length - 1) _ (by rw [List.length_drop]; omega)]
theorem rep_len : ∀ (f : Nat) (l : List UInt8), (repF f l).length ≤ 3 * l.length
  | 0, l => by simp [repF]
  | f + 1, l => by
    simp only [repF]
    split
    · simp
    · rename_i hl
      have h2 : 0 < l.length := List.length_pos_iff.2 hl
      have h3 := badN_le hl
      split
      · rename_i hw
        have h4 := width_le hl
        have h5 := rep_len f (l.drop (width l))
        rw [List.length_append, List.length_take]
        rw [List.length_drop] at h5
        omega
      · have h5 := rep_len f (l.drop (badN l))
        rw [List.length_append]
        rw [List.length_drop] at h5
        simp
        omega

/-- A rune's bytes are those it was read of. -/
theorem encode_rune {l : List UInt8} (hw : width l ≠ 0) (hl : l ≠ []) : encodeRuneZ (rune l (width l)) = (l.take (width l)).map fun x => (x.toNat : Int) := by
  have tk : ∀ n, n ≤ l.length → (l.take n).map (fun x => (x.toNat : Int)) = (List.range n).map fun k => (by' l k : Int) := by
    intro n hn
    apply List.ext_getElem?
    intro i
    rw [List.getElem?_map, List.getElem?_map]
    rcases Nat.lt_or_ge i n with hi | hi
    · rw [List.getElem?_take_of_lt hi, List.getElem?_range hi, List.getElem?_eq_getElem (by omega)]
      simp only [Option.map_some, by', List.getD]
      rw [List.getElem?_eq_getElem (by omega)]
      rfl
    · rw [List.getElem?_eq_none (by simp; omega), List.getElem?_eq_none (by simp; omega)]
      rfl
  have hwl := width_le hl
  rw [tk _ hwl]
  have b0 := by_lt l 0
  have b1 := by_lt l 1
  have b2 := by_lt l 2
  have b3 := by_lt l 3
  rcases width_cases l with ⟨h, q⟩ | ⟨h, q1, q2, q3, q4⟩ | ⟨h, q1, q2, q3, q4, q5⟩ | ⟨h, q1, q2, q3, q4, q5, q6⟩ | ⟨h, _⟩
  · rw [h]
    have : rune l 1 = by' l 0 := by simp [rune]
    rw [this, encodeRuneZ_one (by omega) (by omega)]
    simp [List.range_succ]
  · rw [h]
    rw [ok1] at q4
    have e : rune l 2 = by' l 0 % 32 * 64 + by' l 1 % 64 := by simp [rune]
    rw [e, encodeRuneZ_two (by omega) (by omega)]
    simp [List.range_succ]
    omega
  · rw [h]
    rw [ok1] at q4
    rw [ok2] at q5
    have e : rune l 3 = (by' l 0 % 16 * 64 + by' l 1 % 64) * 64 + by' l 2 % 64 := by simp [rune]
    rw [e, encodeRuneZ_three (by omega)]
    simp [List.range_succ]
    omega
  · rw [h]
    rw [ok1] at q4
    rw [ok2] at q5
    rw [ok3] at q6
    have e : rune l 4 = ((by' l 0 % 8 * 64 + by' l 1 % 64) * 64 + by' l 2 % 64) * 64 + by' l 3 % 64 := by simp [rune]
    rw [e, encodeRuneZ_four (by omega) (by omega)]
    simp [List.range_succ]
    omega
  · exact absurd h hw
theorem rune_cells {l : List UInt8} (hw : width l ≠ 0) (hl : l ≠ []) : runeCells (rune l (width l)) = byteCells (l.take (width l)) := by
  unfold runeCells
  rw [encode_rune hw hl, List.map_map]
  rfl
theorem bad_cells : runeCells 65533 = byteCells [239, 191, 189] := by simp [runeCells, encodeRuneZ, byteCells]

/-- A text whose items are all runes is its own valid form. -/
theorem rep_valid (l : List UInt8) : (∀ x, x ∈ items 0 l → x.bad = false) → rep l = l := by
  induction l using ind with
  | h0 => intro _; rfl
  | h1 l hl ih =>
    intro h
    rw [items_cons 0 hl] at h
    have h1 := h _ (List.mem_cons_self ..)
    have hw : width l ≠ 0 := by
      unfold one at h1
      simpa using h1
    have hb : (one 0 l).bytes = width l := by rw [one_bytes, if_neg hw]
    rw [rep_good hw hl]
    rw [hb, Nat.zero_add] at h
    rw [hb] at ih
    rw [ih (fun x hx => by
      have h2 := items_shift (width l) (l.drop (width l)) 0
      rw [Nat.add_zero] at h2
      have h3 : shift (width l) x ∈ items (width l) (l.drop (width l)) := by rw [h2]; exact List.mem_map_of_mem hx
      exact h (shift (width l) x) (List.mem_cons_of_mem _ h3)), List.take_append_drop]
end Go.Proofs.YtendkmldecoogaaDoor.UtfLaw
