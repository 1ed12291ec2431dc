/-
  The reference's In and Size.
-/
import Derived.Test.YtendkmldecoogaaDoorSpLists
namespace Go.Proofs.YtendkmldecoogaaDoor.SpRef
open Go Go.RowKit Go.Proofs.YtendkmldecoogaaDoor.Kit Go.Proofs.YtendkmldecoogaaDoor.SpFns Go.Proofs.YtendkmldecoogaaDoor.SpFind Go.Proofs.YtendkmldecoogaaDoor.SpSize Go.Proofs.YtendkmldecoogaaDoor.SpLists
attribute [local irreducible] wpQuiet

def InD (L H : Nat → Int) (len : Nat) (r : Int) : Bool := decide (VR r ∧ ∃ i, i < len ∧ L i ≤ r ∧ r ≤ H i)

theorem InD_hit {L H : Nat → Int} {len k : Nat} {r : Int} (hk : k < len) (h1 : L k ≤ r) (h2 : r ≤ H k) : decide (VR r) = InD L H len r :=
  decide_eq_decide.2 ⟨fun h => ⟨h, k, hk, h1, h2⟩, fun h => h.1⟩
theorem InD_no {L H : Nat → Int} {len : Nat} {r : Int} (h : ∀ i, i < len → ¬ (L i ≤ r ∧ r ≤ H i)) : false = InD L H len r :=
  (decide_eq_false (fun ⟨_, i, hi, h1⟩ => h i hi h1)).symm
theorem InD_cut {L H : Nat → Int} {len R : Nat} {r : Int} (h : Rt L H len) (hc : Cut H len r R) : decide (VR r ∧ R < len ∧ L R ≤ r) = InD L H len r := by
  have h1 := hit_cut (L := fun _ => r) (H := fun _ => r) (i := 0) h hc
  unfold hit at h1
  have h2 := decide_eq_decide.1 h1
  exact decide_eq_decide.2 ⟨fun ⟨a, b⟩ => ⟨a, (h2.2 b).imp fun j hj => ⟨hj.1, hj.2.2, hj.2.1⟩⟩, fun ⟨a, b⟩ => ⟨a, h2.1 (b.imp fun j hj => ⟨hj.1, hj.2.2, hj.2.1⟩)⟩⟩

set_option maxRecDepth 100000 in
theorem refIn_calls (a : Option Addr) (len cap : Nat) (L H : Nat → Int) (r : Int) (w : World) (hr : Row w a len L H) (hl : len ≤ 1000000000000000000) :
    Calls Tryd.prog 132 #[.slice a len cap, .int .i32 r] w fun e w' => e = .returned (.bool (InD L H len r)) ∧ w = w' := by
  have HR := Lib.hid hr
  clear hr
  go_enter Tryd.func132, Tryd.ntmps132
  go_wp2_with fail
  go_loopg [5] len (fun g i wr => ∃ k : Nat, k ≤ len ∧ g = len - k ∧ i = .int .i64 k ∧ w = wr ∧ ∀ i, i < k → ¬ (L i ≤ r ∧ r ≤ H i))
  case atStart => exact ⟨0, Nat.zero_le _, by omega, rfl, rfl, fun i hi => by omega⟩
  case round =>
    obtain ⟨k, hk, hg, rfl, rfl, hno⟩ := hrel
    have HG := Lib.hid hg
    have HN := Lib.hid hno
    clear hg hno
    by_cases hlt : k < len
    · obtain ⟨b, off, rfl, hbl, hc⟩ := HR.out.at hlt
      have c0 := (hc k hlt).1
      have c1 := (hc k hlt).2
      have hi : (k : Int) < len := by omega
      clear hc
      by_cases h1 : L k ≤ r
      · by_cases h2 : r ≤ H k
        · go_wp2_with (go_at_call 147; refine (Rune_calls _ _).mono ?_; rintro e w' ⟨rfl, rfl⟩)
          go_ret
          exact ⟨ret_bool (InD_hit hlt h1 h2), rfl⟩
        · go_wp2_with fail
          go_roundg (gk - 1)
          case measure => have := HG.out; omega
          case rel =>
            refine ⟨k + 1, by omega, by have := HG.out; omega, by go_num, rfl, fun i hi => ?_⟩
            rcases Nat.lt_or_ge i k with h | h
            · exact HN.out i h
            · have : i = k := by omega
              subst this
              omega
      · go_wp2_with fail
        go_roundg (gk - 1)
        case measure => have := HG.out; omega
        case rel =>
          refine ⟨k + 1, by omega, by have := HG.out; omega, by go_num, rfl, fun i hi => ?_⟩
          rcases Nat.lt_or_ge i k with h | h
          · exact HN.out i h
          · have : i = k := by omega
            subst this
            omega
    · have hkn : k = len := by omega
      subst hkn
      go_wp2
      go_ret
      exact ⟨ret_bool (InD_no HN.out), rfl⟩
end Go.Proofs.YtendkmldecoogaaDoor.SpRef
