/-
  The walk of the law StepNumbers.
-/
import Derived.Test.YtendkmldecoogaaDoorStepCt
namespace Go.Proofs.YtendkmldecoogaaDoor.stepNumbers
open Go Go.RowKit Go.Proofs.YtendkmldecoogaaDoor Go.Proofs.YtendkmldecoogaaDoor.Kit Go.Proofs.YtendkmldecoogaaDoor.Round Go.Proofs.YtendkmldecoogaaDoor.Seg Go.Proofs.YtendkmldecoogaaDoor.Collect Go.Proofs.YtendkmldecoogaaDoor.Utf Go.Proofs.YtendkmldecoogaaDoor.It Go.Proofs.YtendkmldecoogaaDoor.ItGo Go.Proofs.YtendkmldecoogaaDoor.Dt Go.Proofs.YtendkmldecoogaaDoor.Mo Go.Proofs.YtendkmldecoogaaDoor.MoNew Go.Proofs.YtendkmldecoogaaDoor.Keep Go.Proofs.YtendkmldecoogaaDoor.Cu Go.Proofs.YtendkmldecoogaaDoor.CutAll Go.Proofs.YtendkmldecoogaaDoor.CutTokens Go.Proofs.YtendkmldecoogaaDoor.CutAs Go.Proofs.YtendkmldecoogaaDoor.House Go.Proofs.YtendkmldecoogaaDoor.StepLaw Go.Proofs.YtendkmldecoogaaDoor.StepRun Go.Proofs.YtendkmldecoogaaDoor.StepCt Go.Proofs.YtendkmldecoogaaDoor.StepMore Go.Proofs.YtendkmldecoogaaDoor.Law13
attribute [local irreducible] wpQuiet wpStill
set_option linter.unusedSimpArgs false

theorem r1 : toldB 4 [97, 98, 99, 100] [0, 0, 0, 0] = true := by decide +kernel
theorem r2 : toldB 4 [97, 98, 99, 100, 101] [0, 0, 0, 0, -1] = true := by decide +kernel
theorem r3 : toldB 4 [32, 32, 32, 32, 97] [0, 0, 0, 0, 1] = true := by decide +kernel
theorem r4 : toldB 4 [32, 32, 32, 32, 32, 32] [0, 0, 0, 0, 0, -1] = true := by decide +kernel
theorem r5 : toldB 4 [10, 226, 130] [0, 0, 0, 2] = true := by decide +kernel
theorem r6 : toldB 1 [195, 169] [0, -1] = true := by decide +kernel


set_option maxHeartbeats 4000000 in
set_option maxRecDepth 100000 in
theorem walk (w : World) (hT : Tabs w) : Calls Tryd.prog 14 #[] w fun e w' => e = .returned (.bool true) ∧ Below w.heap.size w w' := by
  have HT := Lib.hid hT
  clear hT
  go_enter Tryd.func14, Tryd.ntmps14
  go_wp2_with fail
  refine (House_calls w).mono ?_
  rintro e W1 ⟨p, rfl, hA, hb1⟩
  have HB := Lib.hid hb1
  have HA := Lib.hid hA
  clear hA hb1
  go_wp2_with fail
  refine (model_calls p W1 HA.out).mono ?_
  rintro e W2 ⟨mb, rfl, hM, hb2⟩
  have HB := Lib.hid (chain HB.out hb2)
  have HM := Lib.hid hM
  clear hM hb2
  go_wp2_with fail
  refine (StepGo.New_nil 1 W2).mono ?_
  rintro e w' ⟨rfl, hw⟩
  subst w'
  go_wp2_with fail
  refine (StepGo.New_bad mb 0 W2 (by omega)).mono ?_
  rintro e w' ⟨rfl, hw⟩
  subst w'
  go_wp2_with fail
  refine (StepGo.New_bad mb 65537 W2 (by omega)).mono ?_
  rintro e w' ⟨rfl, hw⟩
  subst w'
  go_wp2_with fail
  refine (StepGo.New_calls mb 4 W2 HM.out (HT.out.below HB.out) (by decide)).mono ?_
  rintro e W3 ⟨cb, tb, sb, rfl, hc3, hb3⟩
  have HC := Lib.hid hc3
  have HB3 := Lib.hid hb3
  clear hc3 hb3
  go_wp2_with fail
  refine (StepGo.End_calls W2 (.slice none 0 0) [] W3 HC.out (by decide)).mono ?_
  rintro e W4 ⟨v, rfl, hr4, _, hu4, hsh⟩
  have he : (toldE HD 4 []).drop (tolds HD 4 []).length = [] := rfl
  rw [he] at hr4
  obtain ⟨av, cv, rfl, _⟩ := TRow.shape hr4
  have HSH := Lib.hid hsh
  have hb4 : Below W2.heap.size W2 W4 := HB3.out.trans (hu4.below HB3.out.size (fun b hb hh => by
    rcases hh with hh | hh | hh
    · have := HC.out.lo; omega
    · have := HC.out.scan.lo; omega
    · simp [Value.ownBlock] at hh))
  have HB := Lib.hid (chain HB.out hb4)
  clear hr4 hu4 hsh he hb4
  go_wp2_with fail
  refine (HSH.out.put 97).mono ?_
  rintro e w' ⟨rfl, hw⟩
  subst w'
  go_wp2_with fail
  refine HSH.out.place.mono ?_
  rintro e w' ⟨rfl, hw⟩
  subst w'
  go_wp2_with fail
  refine HSH.out.held.mono ?_
  rintro e w' ⟨rfl, hw⟩
  subst w'
  go_wp2_with fail
  refine (told_new 4 _ _ r1 (by decide) (by decide) W4 (HT.out.below HB.out) _ _ _ _ rfl rfl rfl rfl).mono ?_
  rintro e V1 ⟨rfl, hb⟩
  have HB := Lib.hid (chain HB.out hb)
  clear hb
  go_wp2_with fail
  refine (told_new 4 _ _ r2 (by decide) (by decide) V1 (HT.out.below HB.out) _ _ _ _ rfl rfl rfl rfl).mono ?_
  rintro e V2 ⟨rfl, hb⟩
  have HB := Lib.hid (chain HB.out hb)
  clear hb
  go_wp2_with fail
  refine (told_new 4 _ _ r3 (by decide) (by decide) V2 (HT.out.below HB.out) _ _ _ _ rfl rfl rfl rfl).mono ?_
  rintro e V3 ⟨rfl, hb⟩
  have HB := Lib.hid (chain HB.out hb)
  clear hb
  go_wp2_with fail
  refine (told_new 4 _ _ r4 (by decide) (by decide) V3 (HT.out.below HB.out) _ _ _ _ rfl rfl rfl rfl).mono ?_
  rintro e V4 ⟨rfl, hb⟩
  have HB := Lib.hid (chain HB.out hb)
  clear hb
  go_wp2_with fail
  refine (told_new 4 _ _ r5 (by decide) (by decide) V4 (HT.out.below HB.out) _ _ _ _ rfl rfl rfl rfl).mono ?_
  rintro e V5 ⟨rfl, hb⟩
  have HB := Lib.hid (chain HB.out hb)
  clear hb
  go_wp2_with fail
  refine (told_new 1 _ _ r6 (by decide) (by decide) V5 (HT.out.below HB.out) _ _ _ _ rfl rfl rfl rfl).mono ?_
  rintro e V6 ⟨rfl, hb⟩
  have HB := Lib.hid (chain HB.out hb)
  clear hb
  go_wp2_with fail
  refine (Law13.known_calls V6 (HT.out.below HB.out)).mono ?_
  rintro e V7 ⟨rfl, hb⟩
  have HB := Lib.hid (chain HB.out hb)
  clear hb
  go_wp2_with fail
  go_ret
  exact ⟨rfl, HB.out⟩
end Go.Proofs.YtendkmldecoogaaDoor.stepNumbers
