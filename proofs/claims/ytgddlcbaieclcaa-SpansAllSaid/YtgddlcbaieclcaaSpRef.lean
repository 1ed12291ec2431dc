/-
  The reference's In and Size.
-/
import Derived.Test.YtgddlcbaieclcaaSpLists
namespace Go.Proofs.Ytgddlcbaieclcaa.SpRef
open Go Go.RowKit Go.Proofs.Ytgddlcbaieclcaa.Kit Go.Proofs.Ytgddlcbaieclcaa.SpFns Go.Proofs.Ytgddlcbaieclcaa.SpFind Go.Proofs.Ytgddlcbaieclcaa.SpSize Go.Proofs.Ytgddlcbaieclcaa.SpLists
attribute [local irreducible] wpQuiet

def InD (L H : Nat → Int) (len : Nat) (r : Int) : Bool := decide (VR r ∧ ∃ i, i < len ∧ L i ≤ r ∧ r ≤ H i)

theorem InD_hit {L H : Nat → Int} {len k : Nat} {r : Int} (hk : k < len) (h1 : L k ≤ r) (h2 : r ≤ H k) : decide (VR r) = InD L H len r :=
  decide_eq_decide.2 ⟨fun h => ⟨h, k, hk, h1, h2⟩, fun h => h.1⟩
theorem InD_no {L H : Nat → Int} {len : Nat} {r : Int} (h : ∀ i, i < len → ¬ (L i ≤ r ∧ r ≤ H i)) : false = InD L H len r :=
  (decide_eq_false (fun ⟨_, i, hi, h1⟩ => h i hi h1)).symm
theorem InD_cut {L H : Nat → Int} {len R : Nat} {r : Int} (h : Rt L H len) (hc : Cut H len r R) : decide (VR r ∧ R < len ∧ L R ≤ r) = InD L H len r := by
  have h1 := hit_cut (L := fun _ => r) (H := fun _ => r) (i := 0) h hc
  unfold hit at h1
  have h2 := decide_eq_decide.1 h1
  exact decide_eq_decide.2 ⟨fun ⟨a, b⟩ => ⟨a, (h2.2 b).imp fun j hj => ⟨hj.1, hj.2.2, hj.2.1⟩⟩, fun ⟨a, b⟩ => ⟨a, h2.1 (b.imp fun j hj => ⟨hj.1, hj.2.2, hj.2.1⟩)⟩⟩

set_option maxRecDepth 100000 in
theorem refIn_calls (a : Option Addr) (len cap : Nat) (L H : Nat → Int) (r : Int) (w : World) (hr : Row w a len L H) (hl : len ≤ 1000000000000000000) :
    Calls Try.prog 55 #[.slice a len cap, .int .i32 r] w fun e w' => e = .returned (.bool (InD L H len r)) ∧ w = w' := by
  have HR := Lib.hid hr
  clear hr
  go_enter Try.func55, Try.ntmps55
  go_wp2_with fail
  go_loopg [5] len (fun g i wr => ∃ k : Nat, k ≤ len ∧ g = len - k ∧ i = .int .i64 k ∧ w = wr ∧ ∀ i, i < k → ¬ (L i ≤ r ∧ r ≤ H i))
  case atStart => exact ⟨0, Nat.zero_le _, by omega, rfl, rfl, fun i hi => by omega⟩
  case round =>
    obtain ⟨k, hk, hg, rfl, rfl, hno⟩ := hrel
    have HG := Lib.hid hg
    have HN := Lib.hid hno
    clear hg hno
    by_cases hlt : k < len
    · obtain ⟨b, off, rfl, hbl, hc⟩ := HR.out.at hlt
      have c0 := (hc k hlt).1
      have c1 := (hc k hlt).2
      have hi : (k : Int) < len := by omega
      clear hc
      by_cases h1 : L k ≤ r
      · by_cases h2 : r ≤ H k
        · go_wp2_with (go_at_call 68; refine (Rune_calls _ _).mono ?_; rintro e w' ⟨rfl, rfl⟩)
          go_ret
          exact ⟨ret_bool (InD_hit hlt h1 h2), rfl⟩
        · go_wp2_with fail
          go_roundg (gk - 1)
          case measure => have := HG.out; omega
          case rel =>
            refine ⟨k + 1, by omega, by have := HG.out; omega, by go_num, rfl, fun i hi => ?_⟩
            rcases Nat.lt_or_ge i k with h | h
            · exact HN.out i h
            · have : i = k := by omega
              subst this
              omega
      · go_wp2_with fail
        go_roundg (gk - 1)
        case measure => have := HG.out; omega
        case rel =>
          refine ⟨k + 1, by omega, by have := HG.out; omega, by go_num, rfl, fun i hi => ?_⟩
          rcases Nat.lt_or_ge i k with h | h
          · exact HN.out i h
          · have : i = k := by omega
            subst this
            omega
    · have hkn : k = len := by omega
      subst hkn
      go_wp2
      go_ret
      exact ⟨ret_bool (InD_no HN.out), rfl⟩

set_option maxHeartbeats 1000000 in
set_option maxRecDepth 100000 in
theorem refSize_calls (a : Option Addr) (len cap : Nat) (L H : Nat → Int) (w : World) (hr : Row w a len L H) (hR : Rt L H len) :
    Calls Try.prog 56 #[.slice a len cap] w fun e w' => e = .returned (.int .i64 (sum L H len)) ∧ Below w.heap.size w w' := by
  have hl := hR.len_le
  have HR := Lib.hid hr
  have HT := Lib.hid hR
  clear hr hR
  go_enter Try.func56, Try.ntmps56
  go_wp2_with fail
  go_loopg [4, 3] len (fun g s4 s3 wr => ∃ k : Nat, k ≤ len ∧ g = len - k ∧ s4 = .int .i64 k ∧ s3 = .int .i64 (sum L H k) ∧ Below w.heap.size w wr)
  case atStart => exact ⟨0, Nat.zero_le _, by omega, rfl, rfl, Below.refl _ _⟩
  case round =>
    obtain ⟨k, hk, hg, rfl, rfl, hbw⟩ := hrel
    have HG := Lib.hid hg
    have HBW := Lib.hid hbw
    clear hg
    by_cases hlt : k < len
    · obtain ⟨b, off, rfl, hbl, hc⟩ := (HR.out.below hbw).at hlt
      have c0 := (hc k hlt).1
      have c1 := (hc k hlt).2
      have hi : (k : Int) < len := by omega
      obtain ⟨t1, t2, t3, _⟩ := HT.out k hlt
      have hs : sum L H (k + 1) = sum L H k + rsz (L k) (H k) := by rw [← sz_eq t1 t2 t3]; rfl
      have b1 := (vr_bounds t1).1
      have b2 := (vr_bounds t2).2
      have hsk := sum_le L H k
      obtain ⟨l, hl'⟩ : ∃ l, l = L k := ⟨_, rfl⟩
      obtain ⟨h, hh'⟩ : ∃ h, h = H k := ⟨_, rfl⟩
      obtain ⟨S, hS⟩ : ∃ S, S = sum L H k := ⟨_, rfl⟩
      rw [← hl'] at c0 b1 t3 hs
      rw [← hh'] at c1 b2 t3 hs
      rw [← hS] at hs hsk ⊢
      unfold rsz at hs
      have HS := Lib.hid hs
      clear hs hc hbw hl' hh' hS t1 t2
      have m1 : IntKind.i64.wrap h = h := i64w _ (by omega) (by omega)
      have m2 : IntKind.i64.wrap l = l := i64w _ (by omega) (by omega)
      have m3 : IntKind.i64.wrap (S + h) = S + h := i64w _ (by omega) (by omega)
      have m4 : IntKind.i64.wrap (S + h - l) = S + h - l := i64w _ (by omega) (by omega)
      have m5 : IntKind.i64.wrap (S + h - l + 1) = S + h - l + 1 := i64w _ (by omega) (by omega)
      go_wp2_with fail
      refine region_calm (by kernel_rfl) (by kernel_rfl) ?_
      repeat (quiet_step ((fail)))
      refine wpQuiet_nil ?_
      rintro _ ⟨x, rfl⟩
      clear m1 m2 m3 m4 m5
      go_wp2_with fail
      all_goals
        go_roundg (gk - 1)
        · exact ⟨k + 1, by omega, by have := HG.out; omega, by go_num, by rw [HS.out]; exact congrArg (Value.int .i64) (by split <;> omega), Later.chain HBW.out x⟩
        · have := HG.out; omega
    · have hkn : k = len := by omega
      subst hkn
      go_wp2
      go_ret
      exact ⟨rfl, hbw⟩
end Go.Proofs.Ytgddlcbaieclcaa.SpRef
