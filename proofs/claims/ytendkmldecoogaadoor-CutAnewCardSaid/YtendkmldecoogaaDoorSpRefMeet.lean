/-
  The reference's Meet of right lists.
-/
import Derived.Test.YtendkmldecoogaaDoorSpLists
namespace Go.Proofs.YtendkmldecoogaaDoor.SpRefMeet
open Go Go.RowKit Go.Proofs.YtendkmldecoogaaDoor.Kit Go.Proofs.YtendkmldecoogaaDoor.SpFns Go.Proofs.YtendkmldecoogaaDoor.SpFind Go.Proofs.YtendkmldecoogaaDoor.SpSize Go.Proofs.YtendkmldecoogaaDoor.SpLists
attribute [local irreducible] wpQuiet

set_option maxHeartbeats 4000000 in
set_option maxRecDepth 100000 in
theorem refMeet_calls (a b : Option Addr) (la ca lb cb : Nat) (L H L' H' : Nat → Int) (w : World) (hra : Row w a la L H) (hrb : Row w b lb L' H') (ha : Rt L H la) (hb : Rt L' H' lb) :
    Calls Tryd.prog 131 #[.slice a la ca, .slice b lb cb] w fun e w' =>
      e = .returned (.tuple #[.int .i64 (fr (hit L H L' H' lb) la 0).1, .bool (fr (hit L H L' H' lb) la 0).2]) ∧ w = w' := by
  obtain ⟨F, hF⟩ : ∃ F, fr (hit L H L' H' lb) la 0 = F := ⟨_, rfl⟩
  rw [hF]
  have hla := ha.len_le
  have hlb := hb.len_le
  have HA := Lib.hid hra
  have HB := Lib.hid hrb
  have TA := Lib.hid ha
  have TB := Lib.hid hb
  have HF := Lib.hid hF
  clear hra hrb ha hb hF
  go_enter Tryd.func131, Tryd.ntmps131
  go_wp2_with fail
  go_loopg [6] la (fun g i wr => ∃ k : Nat, k ≤ la ∧ g = la - k ∧ i = .int .i64 k ∧ w = wr ∧ fr (hit L H L' H' lb) (la - k) k = F)
  case atStart => exact ⟨0, Nat.zero_le _, by omega, rfl, rfl, HF.out⟩
  case round =>
    obtain ⟨k, hk, hg, rfl, rfl, hfr⟩ := hrel
    have HG := Lib.hid hg
    clear hg
    by_cases hlt : k < la
    · obtain ⟨b1, o1, rfl, hb1, hc1⟩ := HA.out.at hlt
      have c0 := (hc1 k hlt).1
      have c1 := (hc1 k hlt).2
      have hi : (k : Int) < la := by omega
      obtain ⟨t1, _, t3, _⟩ := TA.out k hlt
      have hhit : hit L H L' H' lb k = true → F = ((k : Int), true) := fun h => fr_hit hfr hlt h
      have hmiss : hit L H L' H' lb k = false → fr (hit L H L' H' lb) (la - (k + 1)) (k + 1) = F := fun h => fr_on hfr hlt h
      have HH := Lib.hid hhit
      have HM := Lib.hid hmiss
      clear hc1 hfr hhit hmiss
      go_wp2_with fail
      go_loopg [7] lb (fun g s7 wx => ∃ j : Nat, j ≤ lb ∧ g = lb - j ∧ s7 = .int .i64 j ∧ w = wx ∧ ∀ j', j' < j → ¬ (L k ≤ H' j' ∧ L' j' ≤ H k))
      case atStart => exact ⟨0, Nat.zero_le _, by omega, rfl, rfl, fun j' hj' => by omega⟩
      case round =>
        obtain ⟨j, hj, hg2, rfl, rfl, hno⟩ := hrel
        have HG2 := Lib.hid hg2
        have HN := Lib.hid hno
        clear hg2 hno
        by_cases hjl : j < lb
        · obtain ⟨b2, o2, rfl, hb2, hc2⟩ := HB.out.at hjl
          have f0 := (hc2 j hjl).1
          have f1 := (hc2 j hjl).2
          have hji : (j : Int) < lb := by omega
          obtain ⟨u1, _, u3, _⟩ := TB.out j hjl
          clear hc2
          have hnext : ¬ (L k ≤ H' j ∧ L' j ≤ H k) → ∀ j', j' < j + 1 → ¬ (L k ≤ H' j' ∧ L' j' ≤ H k) := fun h j' h' => by
            rcases Nat.lt_or_ge j' j with h2 | h2
            · exact HN.out j' h2
            · have : j' = j := by omega
              subst this
              exact h
          have HX := Lib.hid hnext
          clear hnext
          by_cases a3 : L k ≤ H' j
          · by_cases a4 : L' j ≤ H k
            · have hF := HH.out (decide_eq_true ⟨j, hjl, a3, a4⟩)
              have HFF := Lib.hid hF
              clear hF
              go_wp2_with (go_at_call 147; refine (Rune_calls _ _).mono ?_; rintro e w' ⟨rfl, rfl⟩)
              all_goals
                go_ret2
                rw [HFF.out]
                exact ⟨rfl, rfl⟩
            · have q1 : L k < L' j := by omega
              have q2 : ¬ H' j < H k := by omega
              go_wp2_with (go_at_call 147; refine (Rune_calls _ _).mono ?_; rintro e w' ⟨rfl, rfl⟩)
              go_roundg (lb - (j + 1))
              case measure => have := HG2.out; omega
              case rel => exact ⟨j + 1, by omega, rfl, by go_num, rfl, HX.out (fun h => by have := h.2; omega)⟩
          · have q1 : ¬ L k < L' j := by omega
            have q2 : H' j < H k := by omega
            go_wp2_with (go_at_call 147; refine (Rune_calls _ _).mono ?_; rintro e w' ⟨rfl, rfl⟩)
            go_roundg (lb - (j + 1))
            case measure => have := HG2.out; omega
            case rel => exact ⟨j + 1, by omega, rfl, by go_num, rfl, HX.out (fun h => by have := h.1; omega)⟩
        · have hjn : j = lb := by omega
          subst hjn
          have hno := HM.out (decide_eq_false (fun ⟨j', h1, h2⟩ => HN.out j' h1 h2))
          have HNO := Lib.hid hno
          clear hno
          go_wp2_with fail
          go_roundg (la - (k + 1))
          case measure => have := HG.out; omega
          case rel => exact ⟨k + 1, by omega, rfl, by go_num, rfl, HNO.out⟩
    · have hkn : k = la := by omega
      subst hkn
      go_wp2
      go_ret2
      rw [fr_end hfr]
      exact ⟨rfl, rfl⟩
end Go.Proofs.YtendkmldecoogaaDoor.SpRefMeet
