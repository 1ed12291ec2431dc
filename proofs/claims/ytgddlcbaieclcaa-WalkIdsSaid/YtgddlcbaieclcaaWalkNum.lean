/-
  Plain arithmetic on the bits of float64: a whole number of less than 2^53 is written and read exactly; sums, negation and comparison of such numbers are exact.
-/
import Derived.Laws.ComplexArith
namespace Go.Proofs.Ytgddlcbaieclcaa.WalkNum
open Go
open Ieee

theorem binade_eq : double.binade = 4503599627370496 := by decide
theorem inf_eq : double.infRung = 9218868437227405312 := by decide +kernel
theorem least_eq : double.leastPlace = -1074 := by decide
theorem sign_eq : double.signWeight = 9223372036854775808 := by decide
theorem frac_eq : double.fractionBits = 52 := rfl

theorem log2_mul_pow (m d : Nat) (hm : m ≠ 0) : (m * 2 ^ d).log2 = m.log2 + d := by
  induction d with
  | zero => simp
  | succ d ih =>
    rw [Nat.pow_succ, ← Nat.mul_assoc, Nat.mul_comm _ 2, Nat.log2_two_mul (by
      intro h
      rcases Nat.mul_eq_zero.1 h with h | h
      · exact hm h
      · exact absurd h (Nat.ne_of_gt (Nat.two_pow_pos d))), ih]
    omega

/-- What is cut away is nothing. -/
theorem cut_exact (s : Bool) (m d : Nat) (hm : m ≠ 0) : Toward.even.cut s (m * 2 ^ d) d = m := by
  have hlog := log2_mul_pow m d hm
  have hp : 0 < 2 ^ d := Nat.two_pow_pos d
  have hmin : min d ((m * 2 ^ d).log2 + 2) = d := by omega
  simp only [Toward.cut, hmin, Nat.one_shiftLeft, Nat.mul_mod_left, Nat.mul_div_cancel _ hp]
  have h0 : ¬ (2 ^ d < 2 * 0) := by omega
  have h1 : (2 ^ d == 2 * 0) = false := by simp; 
  simp [h1]

theorem cut_zero (s : Bool) (m : Nat) : Toward.even.cut s m 0 = m := by
  simp [Toward.cut, Nat.mod_one]

/-- The rung of a whole number below 2^53. -/
def rg (m : Nat) : Nat := if m = 0 then 0 else (m.log2 + 1022) * 4503599627370496 + m * 2 ^ (52 - m.log2)

theorem log2_lt {m : Nat} (h : m < 9007199254740992) : m.log2 ≤ 52 := by
  by_cases h0 : m = 0
  · subst h0; decide
  · have := (Nat.log2_lt h0 (k := 53)).2 (by omega)
    omega

theorem kept_bounds {m : Nat} (h0 : m ≠ 0) (h : m < 9007199254740992) : 4503599627370496 ≤ m * 2 ^ (52 - m.log2) ∧ m * 2 ^ (52 - m.log2) < 9007199254740992 := by
  have hl := log2_lt h
  have hlo := Nat.log2_self_le h0
  have hhi := @Nat.lt_log2_self m
  have e : 2 ^ m.log2 * 2 ^ (52 - m.log2) = 4503599627370496 := by
    rw [← Nat.pow_add, show m.log2 + (52 - m.log2) = 52 by omega]
  have e2 : 2 ^ (m.log2 + 1) * 2 ^ (52 - m.log2) = 9007199254740992 := by
    rw [← Nat.pow_add, show m.log2 + 1 + (52 - m.log2) = 53 by omega]
  refine ⟨?_, ?_⟩
  · rw [← e]; exact Nat.mul_le_mul_right _ hlo
  · rw [← e2]; exact Nat.mul_lt_mul_of_pos_right hhi (Nat.two_pow_pos _)

theorem rg_lt {m : Nat} (h : m < 9007199254740992) : rg m < 9218868437227405312 := by
  unfold rg
  split
  · decide
  · rename_i h0
    have := kept_bounds h0 h
    have := log2_lt h
    omega

/-- A whole number is written as it is, whatever the place it stands at. -/
theorem nearest_at (s : Bool) (m K : Nat) (h : m < 9007199254740992) : double.nearest s (m * 2 ^ K) (-(K : Int)) = double.word s (rg m) := by
  unfold Format.nearest
  by_cases h0 : m = 0
  · subst h0; simp [rg]
  have hne : m * 2 ^ K ≠ 0 := by
    intro h
    rcases Nat.mul_eq_zero.1 h with h | h
    · exact h0 h
    · exact absurd h (Nat.ne_of_gt (Nat.two_pow_pos K))
  rw [if_neg hne]
  have hl := log2_lt h
  simp only [log2_mul_pow m K h0, frac_eq, least_eq, binade_eq, inf_eq]
  have elast : max (-(K : Int) + ((m.log2 + K : Nat) : Int) - ((52 : Nat) : Int)) (-1074) = (m.log2 : Int) - 52 := by omega
  rw [elast]
  have hk := kept_bounds h0 h
  have ekept : Toward.even.cut s ((m * 2 ^ K) <<< (-(K : Int) - ((m.log2 : Int) - 52)).toNat) ((m.log2 : Int) - 52 - -(K : Int)).toNat = m * 2 ^ (52 - m.log2) := by
    by_cases hc : (K : Int) ≤ 52 - m.log2
    · have e1 : ((m.log2 : Int) - 52 - -(K : Int)).toNat = 0 := by omega
      have e2 : (-(K : Int) - ((m.log2 : Int) - 52)).toNat = 52 - m.log2 - K := by omega
      rw [e1, e2, cut_zero, Nat.shiftLeft_eq, Nat.mul_assoc, ← Nat.pow_add, show K + (52 - m.log2 - K) = 52 - m.log2 by omega]
    · have e2 : (-(K : Int) - ((m.log2 : Int) - 52)).toNat = 0 := by omega
      obtain ⟨d, hd⟩ : ∃ d : Nat, K = (52 - m.log2) + d := ⟨K - (52 - m.log2), by omega⟩
      have e1 : ((m.log2 : Int) - 52 - -(K : Int)).toNat = d := by omega
      rw [e1, e2, Nat.shiftLeft_zero, hd, Nat.pow_add, ← Nat.mul_assoc]
      exact cut_exact s _ d (by omega)
  rw [ekept]
  have e3 : ((m.log2 : Int) - 52 - -1074).toNat = m.log2 + 1022 := by omega
  rw [e3]
  congr 1
  unfold rg
  rw [if_neg h0]
  omega

theorem nearest_whole (s : Bool) (m : Nat) (h : m < 9007199254740992) : double.nearest s m 0 = double.word s (rg m) := by
  have := nearest_at s m 0 h
  simpa using this

/-- What such a word is read as. -/
theorem read_rg (s : Bool) (m : Nat) (h : m < 9007199254740992) : ∃ (mag j : Nat), double.read (double.word s (rg m)) = .number s mag (-(j : Int)) ∧ mag = m * 2 ^ j := by
  have hr := rg_lt h
  unfold Format.read
  simp only [sign_eq, binade_eq, inf_eq, least_eq]
  have hw : double.word s (rg m) = if s then 9223372036854775808 + rg m else rg m := by
    unfold Format.word; rw [sign_eq]
  have e1 : (double.word s (rg m) / 9223372036854775808 % 2 == 1) = s := by
    rw [hw]; cases s
    · simp; omega
    · simp; omega
  have e2 : double.word s (rg m) % 9223372036854775808 = rg m := by
    rw [hw]; cases s
    · simp; omega
    · simp; omega
  rw [e1, e2]
  by_cases h0 : m = 0
  · subst h0
    obtain ⟨j, hj⟩ : ∃ j : Nat, j = 1074 := ⟨_, rfl⟩
    refine ⟨0, j, ?_, by rw [Nat.zero_mul]⟩
    simp [rg, hj]
  · have hk := kept_bounds h0 h
    have hl := log2_lt h
    have hrg : rg m = (m.log2 + 1022) * 4503599627370496 + m * 2 ^ (52 - m.log2) := by unfold rg; rw [if_neg h0]
    rw [if_neg (by omega), if_pos (by omega)]
    refine ⟨m * 2 ^ (52 - m.log2), 52 - m.log2, ?_, rfl⟩
    have em : rg m % 4503599627370496 = m * 2 ^ (52 - m.log2) - 4503599627370496 := by omega
    have ed : rg m / 4503599627370496 = m.log2 + 1023 := by omega
    have emag : 4503599627370496 + (m * 2 ^ (52 - m.log2) - 4503599627370496) = m * 2 ^ (52 - m.log2) := by omega
    have epl : (-1074 : Int) + ((m.log2 + 1023 - 1 : Nat) : Int) = -((52 - m.log2 : Nat) : Int) := by omega
    rw [em, ed, emag, epl]

/-- THESE BITS ARE THAT WHOLE NUMBER (a zero of either sign is 0). -/
def Rep (b : Nat) (n : Int) : Prop := n.natAbs < 9007199254740992 ∧ ∃ s : Bool, b = double.word s (rg n.natAbs) ∧ (n = 0 ∨ s = decide (n < 0))

theorem rep_int {n : Int} (h : n.natAbs < 9007199254740992) : Rep (floatOfInt .f64 n) n := by
  refine ⟨h, decide (n < 0), ?_, .inr rfl⟩
  show double.write (.number (n < 0) n.natAbs 0) = _
  simp only [Format.write]
  rw [nearest_whole _ _ h]

theorem rep_zero : Rep 0 0 := ⟨by decide, false, by decide, .inl rfl⟩

theorem signed_mul (s : Bool) (m up : Nat) : signed s m up = signed s m 0 * 2 ^ up := by
  have e : ((m <<< up : Nat) : Int) = (m : Int) * 2 ^ up := by rw [Nat.shiftLeft_eq]; push_cast; rfl
  unfold signed
  cases s
  · simp only [Bool.false_eq_true, if_false, e, Nat.shiftLeft_zero]
  · simp only [if_true, e, Nat.shiftLeft_zero, Int.neg_mul]

/-- Read: a sign, a magnitude, a place at or below 0; what it is worth. -/
theorem rep_read {b : Nat} {n : Int} (h : Rep b n) : ∃ (s : Bool) (mag j : Nat), double.read b = .number s mag (-(j : Int)) ∧ signed s mag 0 = n * 2 ^ j := by
  obtain ⟨hn, s, rfl, hs⟩ := h
  obtain ⟨mag, j, hr, hm⟩ := read_rg s n.natAbs hn
  refine ⟨s, mag, j, hr, ?_⟩
  have e : ((n.natAbs * 2 ^ j : Nat) : Int) = (n.natAbs : Int) * 2 ^ j := by push_cast; rfl
  rw [hm]
  unfold signed
  simp only [Nat.shiftLeft_zero, e]
  rcases hs with rfl | rfl
  · cases s <;> simp
  · by_cases hneg : n < 0
    · simp only [hneg, decide_true, if_true]
      rw [show (n.natAbs : Int) = -n by omega, Int.neg_mul, Int.neg_neg]
    · simp only [hneg, decide_false, Bool.false_eq_true, if_false]
      rw [show (n.natAbs : Int) = n by omega]

theorem pow_int_pos (K : Nat) : (0 : Int) < 2 ^ K := Int.pow_pos (by decide)

theorem rep_add {a b : Nat} {m n : Int} (ha : Rep a m) (hb : Rep b n) (h : (m + n).natAbs < 9007199254740992) : ∃ r, double.add a b = some r ∧ Rep r (m + n) := by
  obtain ⟨s, x, i, hx, vx⟩ := rep_read ha
  obtain ⟨t, y, j, hy, vy⟩ := rep_read hb
  unfold Format.add
  rw [hx, hy]
  simp only [Datum.sum, Option.map_some]
  refine ⟨_, rfl, h, ?_⟩
  have eb : min (-(i : Int)) (-(j : Int)) = -((max i j : Nat) : Int) := by omega
  have e1 : (-(i : Int) - -((max i j : Nat) : Int)).toNat = max i j - i := by omega
  have e2 : (-(j : Int) - -((max i j : Nat) : Int)).toNat = max i j - j := by omega
  rw [eb, e1, e2]
  have et : signed s x (max i j - i) + signed t y (max i j - j) = (m + n) * 2 ^ (max i j) := by
    rw [signed_mul, signed_mul t, vx, vy, Int.mul_assoc, Int.mul_assoc, ← Int.pow_add, ← Int.pow_add, show i + (max i j - i) = max i j by omega, show j + (max i j - j) = max i j by omega, Int.add_mul]
  rw [et]
  have ea : ((m + n) * 2 ^ (max i j)).natAbs = (m + n).natAbs * 2 ^ (max i j) := by
    rw [Int.natAbs_mul, Int.natAbs_pow]; rfl
  simp only [Format.write]
  rw [ea, nearest_at _ _ _ h]
  refine ⟨_, rfl, ?_⟩
  by_cases h0 : m + n = 0
  · exact .inl h0
  · right
    have hp := pow_int_pos (max i j)
    rw [if_neg (by
      intro hc
      rcases Int.mul_eq_zero.1 hc with hc | hc
      · exact h0 hc
      · omega)]
    rw [decide_eq_decide]
    constructor
    · intro hc
      by_cases hneg : m + n < 0
      · exact hneg
      · have := Int.mul_nonneg (show 0 ≤ m + n by omega) (Int.le_of_lt hp)
        omega
    · intro hc
      exact Int.mul_neg_of_neg_of_pos hc hp

theorem rep_order {a b : Nat} {m n : Int} (ha : Rep a m) (hb : Rep b n) : (double.order a b == some .eq) = decide (m = n) := by
  obtain ⟨s, x, i, hx, vx⟩ := rep_read ha
  obtain ⟨t, y, j, hy, vy⟩ := rep_read hb
  unfold Format.order
  rw [hx, hy]
  simp only [Datum.order]
  have eb : min (-(i : Int)) (-(j : Int)) = -((max i j : Nat) : Int) := by omega
  have e1 : (-(i : Int) - -((max i j : Nat) : Int)).toNat = max i j - i := by omega
  have e2 : (-(j : Int) - -((max i j : Nat) : Int)).toNat = max i j - j := by omega
  rw [eb, e1, e2]
  have et1 : signed s x (max i j - i) = m * 2 ^ (max i j) := by
    rw [signed_mul, vx, Int.mul_assoc, ← Int.pow_add, show i + (max i j - i) = max i j by omega]
  have et2 : signed t y (max i j - j) = n * 2 ^ (max i j) := by
    rw [signed_mul, vy, Int.mul_assoc, ← Int.pow_add, show j + (max i j - j) = max i j by omega]
  rw [et1, et2]
  have hp := pow_int_pos (max i j)
  by_cases h : m = n
  · subst h; simp
  · have hne : ¬ (m * 2 ^ (max i j) = n * 2 ^ (max i j)) := fun hc => h (Int.eq_of_mul_eq_mul_right (by omega) hc)
    simp [h, hne]

theorem rep_neg {a : Nat} {n : Int} (ha : Rep a n) : Rep (Op.negFloat .f64 a) (-n) := by
  obtain ⟨hn, s, rfl, hs⟩ := ha
  refine ⟨by omega, !s, ?_, ?_⟩
  · rw [Int.natAbs_neg]
    have hr := rg_lt hn
    show double.word s (rg n.natAbs) ^^^ 2 ^ 63 = double.word (!s) (rg n.natAbs)
    unfold Format.word
    rw [sign_eq]
    generalize rg n.natAbs = r at *
    have hx : r ^^^ 2 ^ 63 = 9223372036854775808 + r := by
      have h3 := Nat.two_pow_add_eq_or_of_lt (i := 63) (b := r) (by omega) 1
      rw [Nat.mul_one] at h3
      have h2 : r ^^^ 2 ^ 63 = r ||| 2 ^ 63 := by
        apply Nat.eq_of_testBit_eq
        intro i
        simp only [Nat.testBit_xor, Nat.testBit_or, Nat.testBit_two_pow]
        by_cases hi : 63 = i
        · subst hi
          rw [Nat.testBit_lt_two_pow (by omega)]; simp
        · simp [hi]
      rw [h2, Nat.or_comm, ← h3]
    cases s
    · simpa using hx
    · simp only [if_true, Bool.not_true, Bool.false_eq_true, if_false]
      rw [← hx, Nat.xor_assoc, Nat.xor_self, Nat.xor_zero]
  · rcases hs with rfl | rfl
    · exact .inl rfl
    · by_cases h0 : n = 0
      · exact .inl (by omega)
      · right
        by_cases hneg : n < 0
        · rw [decide_eq_true hneg, decide_eq_false (by omega)]; rfl
        · rw [decide_eq_false hneg, decide_eq_true (by omega)]; rfl

theorem unary_neg_float (k : FloatKind) (b : Nat) : Op.unary .neg (.float k b) = pure (.float k (Op.negFloat k b)) := rfl

end Go.Proofs.Ytgddlcbaieclcaa.WalkNum
