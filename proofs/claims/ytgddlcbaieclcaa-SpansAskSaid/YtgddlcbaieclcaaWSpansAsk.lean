/-
  The walk of the law SpansAsk.
-/
import Derived.Test.YtgddlcbaieclcaaSpMeet
import Derived.Test.YtgddlcbaieclcaaSpRefMeet
import Derived.Test.YtgddlcbaieclcaaSpRef
namespace Go.Proofs.Ytgddlcbaieclcaa.spansAsk
open Go Go.RowKit Go.Proofs.Ytgddlcbaieclcaa.Kit Go.Proofs.Ytgddlcbaieclcaa.SpFns Go.Proofs.Ytgddlcbaieclcaa.SpRight Go.Proofs.Ytgddlcbaieclcaa.SpFind Go.Proofs.Ytgddlcbaieclcaa.SpSize Go.Proofs.Ytgddlcbaieclcaa.SpKnown Go.Proofs.Ytgddlcbaieclcaa.SpLists Go.Proofs.Ytgddlcbaieclcaa.SpMeet Go.Proofs.Ytgddlcbaieclcaa.SpRefMeet Go.Proofs.Ytgddlcbaieclcaa.SpRef
attribute [local irreducible] wpQuiet

set_option maxHeartbeats 1000000 in
set_option maxRecDepth 100000 in
theorem walk (a : Option Addr) (la ca : Nat) (L H : Nat → Int) (b : Option Addr) (lb cb : Nat) (L' H' : Nat → Int) (r : Int) (w : World) (hra : Row w a la L H) (hla : la ≤ 17592186044416) (hrb : Row w b lb L' H') (hlb : lb ≤ 17592186044416) (_hr : -2147483648 ≤ r ∧ r ≤ 2147483647) :
    Calls Try.prog 14 #[.slice a la ca, .slice b lb cb, .int .i32 r] w fun e w' => e = .returned (.bool true) ∧ Below w.heap.size w w' := by
  have HA := Lib.hid hra
  have HB := Lib.hid hrb
  clear hra hrb
  obtain ⟨ra, hra⟩ : ∃ ra, ra = rt L H la 0 := ⟨_, rfl⟩
  obtain ⟨rb, hrb⟩ : ∃ rb, rb = rt L' H' lb 0 := ⟨_, rfl⟩
  have RA := Lib.hid (fun w (h : Row w a la L H) => refRight_calls a la ca L H w h (by omega))
  have RB := Lib.hid (fun w (h : Row w b lb L' H') => refRight_calls b lb cb L' H' w h (by omega))
  rw [← hra] at RA
  rw [← hrb] at RB
  have EA := Lib.hid hra
  have EB := Lib.hid hrb
  clear hra hrb
  go_enter Try.func14, Try.ntmps14
  go_wp2_with fail
  refine (RA.out w HA.out).mono ?_
  rintro e w1 ⟨rfl, hb⟩
  have HB1 := Lib.hid hb
  clear hb
  go_wp2_with fail
  refine (RB.out w1 (HB.out.below HB1.out)).mono ?_
  rintro e w2 ⟨rfl, hb⟩
  have HB2 := Lib.hid (chain HB1.out hb)
  clear hb
  by_cases ha : ra.2 = 0
  · by_cases hb : rb.2 = 0
    · have ta : Rt L H la := Rt.of (by rw [← EA.out]; exact ha)
      have tb : Rt L' H' lb := Rt.of (by rw [← EB.out]; exact hb)
      have TA := Lib.hid ta
      have TB := Lib.hid tb
      clear ta tb
      obtain ⟨F, hF⟩ : ∃ F, F = fr (hit L H L' H' lb) la 0 := ⟨_, rfl⟩
      have HM := Lib.hid (fun w (h : Row w a la L H) (h' : Row w b lb L' H') => Meet_calls a b la ca lb cb L H L' H' w h h' TA.out TB.out)
      have HM' := Lib.hid (fun w (h : Row w a la L H) (h' : Row w b lb L' H') => refMeet_calls a b la ca lb cb L H L' H' w h h' TA.out TB.out)
      rw [← hF] at HM HM'
      clear hF
      obtain ⟨R, hcut⟩ := Rt.cut r la TA.out
      have HI := Lib.hid (fun w (h : Row w a la L H) => In_calls a la ca L H r R w h (by omega) hcut)
      rw [InD_cut TA.out hcut] at HI
      have HI' := Lib.hid (fun w (h : Row w a la L H) => refIn_calls a la ca L H r w h (by omega))
      obtain ⟨D, hD⟩ : ∃ D, D = InD L H la r := ⟨_, rfl⟩
      rw [← hD] at HI HI'
      clear hcut hD
      have HS := Lib.hid (fun w (h : Row w a la L H) => Size_calls a la ca L H w h TA.out.len_le)
      have HS' := Lib.hid (fun w (h : Row w a la L H) => refSize_calls a la ca L H w h TA.out)
      obtain ⟨Z, hZ⟩ : ∃ Z, Z = sum L H la := ⟨_, rfl⟩
      rw [← hZ] at HS HS'
      clear hZ
      go_wp2_with fail
      refine (HM.out w2 (HA.out.below HB2.out) (HB.out.below HB2.out)).mono ?_
      rintro e w3 ⟨rfl, hb3⟩
      have HB3 := Lib.hid (chain HB2.out hb3)
      clear hb3
      go_wp2_with fail
      refine (HM'.out w3 (HA.out.below HB3.out) (HB.out.below HB3.out)).mono ?_
      rintro e w4 ⟨rfl, rfl⟩
      go_wp2_with fail
      refine (HI.out w3 (HA.out.below HB3.out)).mono ?_
      rintro e w4 ⟨rfl, hb4⟩
      have HB4 := Lib.hid (chain HB3.out hb4)
      clear hb4
      go_wp2_with fail
      refine (HI'.out w4 (HA.out.below HB4.out)).mono ?_
      rintro e w5 ⟨rfl, rfl⟩
      go_wp2_with fail
      refine (HS.out w4 (HA.out.below HB4.out)).mono ?_
      rintro e w5 ⟨rfl, hb5⟩
      have HB5 := Lib.hid (chain HB4.out hb5)
      clear hb5
      go_wp2_with fail
      refine (HS'.out w5 (HA.out.below HB5.out)).mono ?_
      rintro e w6 ⟨rfl, hb6⟩
      have HB6 := Lib.hid (chain HB5.out hb6)
      clear hb6
      go_wp2_with fail
      refine (known_calls w6).mono ?_
      rintro e w7 ⟨rfl, hb7⟩
      have HB7 := Lib.hid (chain HB6.out hb7)
      clear hb7
      go_wp2
      go_ret
      exact ⟨rfl, HB7.out⟩
    · go_wp2_with fail
      refine (known_calls w2).mono ?_
      rintro e w3 ⟨rfl, hb3⟩
      have HB3 := Lib.hid (chain HB2.out hb3)
      clear hb3
      go_wp2
      go_ret
      exact ⟨rfl, HB3.out⟩
  · go_wp2_with fail
    refine (known_calls w2).mono ?_
    rintro e w3 ⟨rfl, hb3⟩
    have HB3 := Lib.hid (chain HB2.out hb3)
    clear hb3
    go_wp2
    go_ret
    exact ⟨rfl, HB3.out⟩
end Go.Proofs.Ytgddlcbaieclcaa.spansAsk
