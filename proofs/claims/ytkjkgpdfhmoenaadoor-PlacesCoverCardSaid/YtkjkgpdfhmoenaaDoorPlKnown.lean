/-
  tesseralaw21: few, known.
-/
import Derived.Test.YtkjkgpdfhmoenaaDoorPlAt
import Derived.Test.YtkjkgpdfhmoenaaDoorPlSafe2
import Derived.Test.YtkjkgpdfhmoenaaDoorHouse
import Derived.Test.YtkjkgpdfhmoenaaDoorSameInt
import Derived.Test.YtkjkgpdfhmoenaaDoorFew
namespace Go.Proofs.YtkjkgpdfhmoenaaDoor.PlKnown
open Go Go.RowKit Go.Proofs.YtkjkgpdfhmoenaaDoor.Kit Go.Proofs.YtkjkgpdfhmoenaaDoor.Seg Go.Proofs.YtkjkgpdfhmoenaaDoor.ItGo Go.Proofs.YtkjkgpdfhmoenaaDoor.Dt Go.Proofs.YtkjkgpdfhmoenaaDoor.MoNew Go.Proofs.YtkjkgpdfhmoenaaDoor.Keep Go.Proofs.YtkjkgpdfhmoenaaDoor.House Go.Proofs.YtkjkgpdfhmoenaaDoor.EncLaw Go.Proofs.YtkjkgpdfhmoenaaDoor.EncGo Go.Proofs.YtkjkgpdfhmoenaaDoor.BpeGo Go.Proofs.YtkjkgpdfhmoenaaDoor.Few Go.Proofs.YtkjkgpdfhmoenaaDoor.PlGo Go.Proofs.YtkjkgpdfhmoenaaDoor.PlSafe
attribute [local irreducible] wpQuiet

set_option maxRecDepth 100000 in
theorem few_calls (s : ByteArray) (n : Nat) (w : World) (hn : n ≤ 1000000) : Calls Tryd.prog 26 #[.string s, .int .i64 n] w fun e w' => e = .returned (.string (few s n)) ∧ w = w' := by
  unfold few
  by_cases h : n < s.size
  · have h1 : (n : Int) < s.size := by omega
    rw [if_pos h]
    clear h
    go_enter Tryd.func26, Tryd.ntmps26
    go_wp2
    go_ret
    exact ⟨rfl, rfl⟩
  · have h1 : ¬ ((n : Int) < s.size) := by omega
    rw [if_neg h]
    clear h
    go_enter Tryd.func26, Tryd.ntmps26
    go_wp2
    go_ret
    exact ⟨rfl, rfl⟩

theorem run_1 : encode HD 9 [97, 98, 195, 169] = ([256, 261], none) := by decide +kernel
theorem run_2 : (pcs HD (nums [97, 98, 195, 169]) [256, 261] 2).map (fun p => (p.id, p.a, p.b, p.f, p.e)) = [(256, 0, 2, 0, 2), (261, 2, 4, 2, 3)] := by decide +kernel
theorem run_3 : safeB HD [10, 10, 97] 1 = true := by decide +kernel
theorem run_4 : safeB HD [10, 10, 97] 2 = false := by decide +kernel

set_option maxHeartbeats 1000000 in
set_option maxRecDepth 100000 in
theorem known_calls (w : World) (hT : Tabs w) : Calls Tryd.prog 25 #[] w fun e w' => e = .returned (.bool true) ∧ Below w.heap.size w w' := by
  have HT := Lib.hid hT
  clear hT
  go_enter Tryd.func25, Tryd.ntmps25
  go_wp2_with fail
  refine (House_calls w).mono ?_
  rintro e W1 ⟨p, rfl, hat, hb1⟩
  go_wp2_with fail
  refine (model_calls p W1 hat).mono ?_
  rintro e W2 ⟨mb, rfl, hM, hb2⟩
  have HB := Lib.hid (chain hb1 hb2)
  have HM := Lib.hid hM
  clear hat hb1 hb2 hM
  have hoc := Of_calls HD mb 9 ⟨#[97, 98, 195, 169]⟩ W2 HM.out (HT.out.below HB.out) (by decide) (by decide) (by decide)
  have h1 : encode HD 9 (ByteArray.mk #[97, 98, 195, 169]).data.toList = ([256, 261], none) := run_1
  rw [h1] at hoc
  have HOC := Lib.hid hoc
  clear hoc h1
  go_wp2_with fail
  refine HOC.out.mono ?_
  rintro e W3 ⟨v, rfl, hr, hb3⟩
  obtain ⟨l, hl⟩ : ∃ l, pcs HD (nums [97, 98, 195, 169]) [256, 261] 2 = l := ⟨_, rfl⟩
  have hr' : PcRow W3 W2.heap.size v l := hl ▸ hr
  have hmap := run_2
  rw [hl] at hmap
  obtain ⟨p0, p1, rfl, q0, q1⟩ : ∃ p0 p1, l = [p0, p1] ∧ p0 = ⟨256, 0, 2, 0, 2⟩ ∧ p1 = ⟨261, 2, 4, 2, 3⟩ := by
    match l, hmap with
    | [p0, p1], h =>
      obtain ⟨i0, a0, b0, f0, e0⟩ := p0
      obtain ⟨i1, a1, b1, f1, e1⟩ := p1
      simp only [List.map_cons, List.map_nil, List.cons.injEq, Prod.mk.injEq, and_true] at h
      obtain ⟨⟨rfl, rfl, rfl, rfl, rfl⟩, rfl, rfl, rfl, rfl, rfl⟩ := h
      exact ⟨_, _, rfl, rfl, rfl⟩
    | [], h => simp at h
    | [_], h => simp at h
    | _ :: _ :: _ :: _, h => simp at h
  subst q0
  subst q1
  obtain ⟨a, cap, rfl, hcap, hpr⟩ := PcRow.pr hr'
  obtain ⟨g, o, rfl, hg, hc⟩ := hpr.resolve_left (by decide)
  obtain ⟨x0, x1, x2, x3, x4⟩ := hc 0 (by decide)
  obtain ⟨y0, y1, y2, y3, y4⟩ := hc 1 (by decide)
  simp only [Nat.zero_mul, Nat.add_zero, Nat.one_mul, List.getD_cons_zero, List.getD_cons_succ] at x0 x1 x2 x3 x4 y0 y1 y2 y3 y4
  have HS1 := Lib.hid (Safe_calls HD mb ⟨#[10, 10, 97]⟩ 1 W3 (HM.out.below hb3) (HT.out.below (chain HB.out hb3)) (by decide))
  have HB := Lib.hid (chain HB.out hb3)
  have HM := Lib.hid (HM.out.below hb3)
  clear hr hr' hl hmap hc hpr hb3 HOC
  unfold stOf
  simp only [List.length_cons, List.length_nil, Nat.reduceAdd]
  go_wp2_with fail
  have h3 : safeB HD (ByteArray.mk #[10, 10, 97]).data.toList 1 = true := run_3
  have hs1 := HS1.out
  rw [h3] at hs1
  refine hs1.mono ?_
  rintro e W4 ⟨rfl, hb4⟩
  have hs2 := Safe_calls HD mb ⟨#[10, 10, 97]⟩ 2 W4 (HM.out.below hb4) (HT.out.below (chain HB.out hb4)) (by decide)
  have h4 : safeB HD (ByteArray.mk #[10, 10, 97]).data.toList 2 = false := run_4
  rw [h4] at hs2
  have HS2 := Lib.hid hs2
  have HB := Lib.hid (chain HB.out hb4)
  clear h3 h4 hs1 hs2 hb4 x0 x1 x2 x3 x4 y0 y1 y2 y3 y4
  go_wp2_with fail
  refine HS2.out.mono ?_
  rintro e W5 ⟨rfl, hb5⟩
  have HB := Lib.hid (chain HB.out hb5)
  clear hb5
  go_wp2_with fail
  go_ret
  exact ⟨rfl, HB.out⟩
end Go.Proofs.YtkjkgpdfhmoenaaDoor.PlKnown
