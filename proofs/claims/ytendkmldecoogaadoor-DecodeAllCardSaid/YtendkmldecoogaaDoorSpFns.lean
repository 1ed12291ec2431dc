/-
  Chapter 3: what the small functions about spans compute.
-/
import Derived.Test.YtendkmldecoogaaDoorProg
import Derived.Test.YtendkmldecoogaaDoorKit
namespace Go.Proofs.YtendkmldecoogaaDoor.SpFns
open Go Go.RowKit Go.Proofs.YtendkmldecoogaaDoor.Kit

attribute [local irreducible] wpQuiet

/-- Is it a scalar value? -/
def VR (r : Int) : Prop := 0 ≤ r ∧ r < 55296 ∨ 57343 < r ∧ r ≤ 1114111
instance (r : Int) : Decidable (VR r) := by unfold VR; infer_instance

theorem vr_iff (r : Int) : VR r ↔ 0 ≤ r ∧ r < 55296 ∨ 57343 < r ∧ r ≤ 1114111 := Iff.rfl
theorem ret_bool {a b : Bool} (h : a = b) : Ending.returned (.bool a) = .returned (.bool b) := by rw [h]

theorem ValidRune_calls (r : Int) (w : World) :
    Calls Tryd.prog 139 #[.int .i32 r] w fun e w' => e = .returned (.bool (decide (VR r))) ∧ w = w' := by
  go_enter Tryd.func139, Tryd.ntmps139
  go_wp2
  all_goals
    go_ret
    exact ⟨ret_bool (by rw [Bool.eq_iff_iff]; simp [vr_iff] <;> omega), rfl⟩

theorem Rune_calls (r : Int) (w : World) :
    Calls Tryd.prog 147 #[.int .i32 r] w fun e w' => e = .returned (.bool (decide (VR r))) ∧ w = w' := by
  go_enter Tryd.func147, Tryd.ntmps147
  go_wp2
  all_goals
    go_ret
    exact ⟨ret_bool (by rw [Bool.eq_iff_iff]; simp [vr_iff] <;> omega), rfl⟩

/-- A slice of spans as it lies in memory. -/
def Row (w : World) (a : Option Addr) (len : Nat) (L H : Nat → Int) : Prop :=
  len = 0 ∨ ∃ b off, a = some ⟨b, off, none⟩ ∧ b < w.heap.size ∧ ∀ i, i < len → w.cell? ⟨b, off + i * 2, none⟩ = some (.int .i32 (L i)) ∧ w.cell? ⟨b, off + i * 2 + 1, none⟩ = some (.int .i32 (H i))

theorem Row.at {w : World} {a : Option Addr} {len : Nat} {L H : Nat → Int} (h : Row w a len L H) {k : Nat} (hk : k < len) :
    ∃ b off, a = some ⟨b, off, none⟩ ∧ b < w.heap.size ∧ ∀ i, i < len → w.cell? ⟨b, off + i * 2, none⟩ = some (.int .i32 (L i)) ∧ w.cell? ⟨b, off + i * 2 + 1, none⟩ = some (.int .i32 (H i)) := by
  rcases h with rfl | h
  · omega
  · exact h

theorem Row.below {w w' : World} {a : Option Addr} {len : Nat} {L H : Nat → Int} (h : Row w a len L H) (hb : Below w.heap.size w w') : Row w' a len L H := by
  rcases h with h | ⟨b, off, rfl, hl, hc⟩
  · exact .inl h
  · have := hb.size
    exact .inr ⟨b, off, rfl, by omega, fun i hi => ⟨by rw [(bcell hb).1 _ _ hl]; exact (hc i hi).1, by rw [(bcell hb).1 _ _ hl]; exact (hc i hi).2⟩⟩

/-- What is wrong with span i: 14, 15; or 0. -/
def bad (L H : Nat → Int) (i : Nat) : Int := if ¬ (VR (L i) ∧ VR (H i)) then 14 else if H i < L i ∨ 0 < i ∧ L i ≤ H (i - 1) then 15 else 0
/-- The first wrong span of n ones from i on, and what is wrong. -/
def rt (L H : Nat → Int) : Nat → Nat → Int × Int
  | 0, _ => (0, 0)
  | n + 1, i => if bad L H i = 0 then rt L H n (i + 1) else (i, bad L H i)

theorem bad_cases (L H : Nat → Int) (k : Nat) : (bad L H k = 14 ∧ ¬ VR (L k)) ∨ (bad L H k = 14 ∧ VR (L k) ∧ ¬ VR (H k)) ∨ (bad L H k = 15 ∧ VR (L k) ∧ VR (H k) ∧ H k < L k) ∨
    (bad L H k = 0 ∧ VR (L k) ∧ VR (H k) ∧ L k ≤ H k ∧ k = 0) ∨ (bad L H k = 15 ∧ VR (L k) ∧ VR (H k) ∧ L k ≤ H k ∧ 0 < k ∧ L k ≤ H (k - 1)) ∨ (bad L H k = 0 ∧ VR (L k) ∧ VR (H k) ∧ L k ≤ H k ∧ 0 < k ∧ H (k - 1) < L k) := by
  unfold bad
  by_cases h1 : VR (L k)
  · by_cases h2 : VR (H k)
    · by_cases h3 : H k < L k
      · simp [h1, h2, h3]
      · by_cases h4 : 0 < k
        · by_cases h5 : L k ≤ H (k - 1)
          · have : L k ≤ H k := by omega
            simp [h1, h2, h3, h4, h5, this]
          · have g1 : L k ≤ H k := by omega
            have g2 : H (k - 1) < L k := by omega
            have g3 : k ≠ 0 := by omega
            simp [h1, h2, h3, h4, h5, g1, g2, g3]
        · have : L k ≤ H k := by omega
          have h5 : k = 0 := by omega
          subst h5
          simp [h1, h2, h3, this]
    · simp [h1, h2]
  · simp [h1]

theorem rt_stop {L H : Nat → Int} {len k : Nat} {R : Int × Int} (h : rt L H (len - k) k = R) (hlt : k < len) {e : Int} (hb : bad L H k = e) (he : e ≠ 0) : R = ((k : Int), e) := by
  rw [← h, show len - k = (len - k - 1) + 1 by omega]
  simp [rt, hb, he]
theorem rt_on {L H : Nat → Int} {len k : Nat} {R : Int × Int} (h : rt L H (len - k) k = R) (hlt : k < len) (hb : bad L H k = 0) : rt L H (len - (k + 1)) (k + 1) = R := by
  rw [← h, show len - k = (len - (k + 1)) + 1 by omega]
  simp [rt, hb]
theorem rt_end {L H : Nat → Int} {len : Nat} {R : Int × Int} (h : rt L H (len - len) len = R) : R = (0, 0) := by
  rw [← h, Nat.sub_self]; rfl

set_option maxHeartbeats 1000000 in
set_option maxRecDepth 100000 in
theorem refRight_calls (a : Option Addr) (len cap : Nat) (L H : Nat → Int) (w : World) (hr : Row w a len L H) (hl : len ≤ 9223372036854775807) :
    Calls Tryd.prog 130 #[.slice a len cap] w fun e w' =>
      e = .returned (.tuple #[.int .i64 (rt L H len 0).1, .int .i64 (rt L H len 0).2]) ∧ Below w.heap.size w w' := by
  obtain ⟨R, hR⟩ : ∃ R, rt L H len 0 = R := ⟨_, rfl⟩
  rw [hR]
  have HR := Lib.hid hR
  have HROW := Lib.hid hr
  clear hR hr
  go_enter Tryd.func130, Tryd.ntmps130
  go_wp2_with fail
  go_loopg [4] len (fun g i wr => ∃ k : Nat, k ≤ len ∧ g = len - k ∧ i = .int .i64 k ∧ Below w.heap.size w wr ∧ rt L H (len - k) k = R)
  case atStart => exact ⟨0, Nat.zero_le _, by omega, rfl, Below.refl _ _, HR.out⟩
  case round =>
    obtain ⟨k, hk, hg, rfl, hbw, hrt⟩ := hrel
    have HG := Lib.hid hg
    clear hg
    have HBW := Lib.hid hbw
    by_cases hlt : k < len
    · have hr2 := HROW.out.below hbw
      clear hbw
      obtain ⟨b, off, rfl, hbl, hc⟩ := hr2.at hlt
      have c0 := (hc k hlt).1
      have c1 := (hc k hlt).2
      have hs : ∀ e, bad L H k = e → e ≠ 0 → R = ((k : Int), e) := fun e h1 h2 => rt_stop hrt hlt h1 h2
      have ho := @rt_on L H len k R hrt hlt
      have HS := Lib.hid hs
      have HO := Lib.hid ho
      clear hrt hs ho hr2
      have hi : (k : Int) < len := by omega
      rcases bad_cases L H k with ⟨hb, q1⟩ | ⟨hb, q1, q2⟩ | ⟨hb, q1, q2, q3⟩ | ⟨hb, q1, q2, q3, q4⟩ | ⟨hb, q1, q2, q3, q4, q5⟩ | ⟨hb, q1, q2, q3, q4, q5⟩
      · go_wp2_with (go_at_call 147; refine (Rune_calls _ _).mono ?_; rintro e w' ⟨rfl, rfl⟩)
        go_ret2
        rw [HS.out _ hb (by decide)]
        exact ⟨rfl, by first | exact HBW.out | exact Later.chain HBW.out x⟩
      · go_wp2_with (go_at_call 147; refine (Rune_calls _ _).mono ?_; rintro e w' ⟨rfl, rfl⟩)
        go_ret2
        rw [HS.out _ hb (by decide)]
        exact ⟨rfl, by first | exact HBW.out | exact Later.chain HBW.out x⟩
      · go_wp2_with (go_at_call 147; refine (Rune_calls _ _).mono ?_; rintro e w' ⟨rfl, rfl⟩)
        refine region_calm (by kernel_rfl) (by kernel_rfl) ?_
        repeat (quiet_step ((fail)))
        refine wpQuiet_nil ?_
        rintro _ ⟨x, rfl⟩
        go_wp2
        go_ret2
        rw [HS.out _ hb (by decide)]
        exact ⟨rfl, by first | exact HBW.out | exact Later.chain HBW.out x⟩
      · subst q4
        simp only [Nat.zero_mul, Nat.add_zero] at c0 c1
        go_wp2_with (go_at_call 147; refine (Rune_calls _ _).mono ?_; rintro e w' ⟨rfl, rfl⟩)
        refine region_calm (by kernel_rfl) (by kernel_rfl) ?_
        repeat (quiet_step ((fail)))
        refine wpQuiet_nil ?_
        rintro _ ⟨x, rfl⟩
        go_wp2
        go_roundg (gk - 1)
        case measure => have := HG.out; omega
        case rel => exact ⟨0 + 1, by omega, by have := HG.out; omega, by go_num, Later.chain HBW.out x, HO.out hb⟩
      · have q6 : (0 : Int) < k := by omega
        have c2 := (hc (k - 1) (by omega)).2
        have hw : IntKind.i64.wrap ((k : Int) - 1) = ((k - 1 : Nat) : Int) := by rw [i64w _ (by omega) (by omega)]; omega
        have hj : k - 1 < len := by omega
        have hj' : ((k - 1 : Nat) : Int) < len := by omega
        go_wp2_with (go_at_call 147; refine (Rune_calls _ _).mono ?_; rintro e w' ⟨rfl, rfl⟩)
        refine region_calm (by kernel_rfl) (by kernel_rfl) ?_
        repeat (quiet_step ((fail)))
        refine wpQuiet_nil ?_
        rintro _ ⟨x, rfl⟩
        go_wp2
        go_ret2
        rw [HS.out _ hb (by decide)]
        exact ⟨rfl, by first | exact HBW.out | exact Later.chain HBW.out x⟩
      · have q6 : (0 : Int) < k := by omega
        have c2 := (hc (k - 1) (by omega)).2
        have hw : IntKind.i64.wrap ((k : Int) - 1) = ((k - 1 : Nat) : Int) := by rw [i64w _ (by omega) (by omega)]; omega
        have hj : k - 1 < len := by omega
        have hj' : ((k - 1 : Nat) : Int) < len := by omega
        go_wp2_with (go_at_call 147; refine (Rune_calls _ _).mono ?_; rintro e w' ⟨rfl, rfl⟩)
        refine region_calm (by kernel_rfl) (by kernel_rfl) ?_
        repeat (quiet_step ((fail)))
        refine wpQuiet_nil ?_
        rintro _ ⟨x, rfl⟩
        go_wp2
        go_roundg (gk - 1)
        case measure => have := HG.out; omega
        case rel => exact ⟨k + 1, by omega, by have := HG.out; omega, by go_num, Later.chain HBW.out x, HO.out hb⟩
    · have hkn : k = len := by omega
      subst hkn
      go_wp2
      go_ret2
      rw [rt_end hrt]
      exact ⟨rfl, hbw⟩
end Go.Proofs.YtendkmldecoogaaDoor.SpFns
