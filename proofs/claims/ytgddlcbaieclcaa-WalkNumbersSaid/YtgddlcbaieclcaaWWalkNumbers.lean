/-
  The walk of the law WalkNumbers: it answers true.
-/
import Derived.Test.YtgddlcbaieclcaaWalkKnown
namespace Go.Proofs.Ytgddlcbaieclcaa.walkNumbers
open Go Go.RowKit Go.Proofs.Ytgddlcbaieclcaa.WalkNum Go.Proofs.Ytgddlcbaieclcaa.Kit Go.Proofs.Ytgddlcbaieclcaa.WalkFns

set_option maxRecDepth 100000 in
theorem Ids_nil (v : Value) (w : World) :
    Calls Try.prog 30 #[.pointer none, v] w fun e w' => e = .returned (.tuple #[.agg #[.int .i64 0, .complex .f64 0 0], .int .i64 0]) ∧ Below w.heap.size w w' := by
  go_enter Try.func30, Try.ntmps30
  go_wp2
  refine bodyPost_ret (v := .tuple #[.agg #[.int .i64 0, .complex .f64 0 0], .int .i64 0]) (by simp [results, Try.results30, go_sem, *]) rfl ⟨rfl, by repeat (first | exact Below.refl _ _ | apply Below.drew | (refine Below.alloc ?_ (by simp <;> omega) _) | (refine Below.setCell ?_ (by simp <;> omega) _) | assumption)⟩

theorem one_is : IsB ⟨1, 4627730092099895296, 4607182418800017408⟩ ⟨1, 25, 1⟩ := by
  have h1 : floatOfInt .f64 25 = 4627730092099895296 := by decide +kernel
  have h2 : floatOfInt .f64 1 = 4607182418800017408 := by decide +kernel
  have r1 := rep_int (n := 25) (by decide)
  have r2 := rep_int (n := 1) (by decide)
  rw [h1] at r1
  rw [h2] at r2
  exact ⟨rfl, r1, r2⟩
theorem x_is : IsB ⟨0, 4607182418800017408, 0⟩ ⟨0, 1, 0⟩ := ⟨rfl, one_is.2.2, rep_zero⟩
theorem five_is : IsB ⟨5, 0, 0⟩ ⟨5, 0, 0⟩ := ⟨rfl, rep_zero, rep_zero⟩

set_option maxRecDepth 100000 in
theorem walk (w : World) :
    Calls Try.prog 7 #[] w fun e w' => e = .returned (.bool true) ∧ Below w.heap.size w w' := by
  have k1 := is_yes (m := ⟨3, -1, 25⟩) (BackB_is one_is)
  have k2 := is_yes (m := ⟨0, 0, 0⟩) (wkB_is B0_is [] (by decide) (by decide))
  have k3 := is_yes (m := ⟨1, 0, 1⟩) (JB_is five_is x_is (by decide) (by decide))
  have k4 := is_yes (m := ⟨0, 0, 0⟩) B0_is
  have k5 := Back_calls ⟨1, 4627730092099895296, 4607182418800017408⟩
  have k6 := Join_b five_is x_is (by decide) (by decide)
  have K1 := Lib.hid k1
  have K2 := Lib.hid k2
  have K3 := Lib.hid k3
  have K4 := Lib.hid k4
  have K5 := Lib.hid k5
  have K6 := Lib.hid k6
  clear k1 k2 k3 k4 k5 k6
  simp only [WB.val, W3.val] at K1 K2 K3 K4 K5 K6
  go_enter Try.func7, Try.ntmps7
  go_wp2_with fail
  refine (Ids_nil _ _).mono ?_
  rintro e w1 ⟨rfl, hb1⟩
  go_wp2_with fail
  refine (K5.out _).mono ?_
  rintro e w2 ⟨rfl, hb2⟩
  go_wp2_with fail
  refine (K1.out _).mono ?_
  rintro e w3 ⟨rfl, hb3⟩
  go_wp2_with fail
  refine (Of_calls ⟨#[]⟩ (by decide) _).mono ?_
  rintro e w4 ⟨rfl, hb4⟩
  go_wp2_with fail
  refine (K2.out _).mono ?_
  rintro e w5 ⟨rfl, hb5⟩
  go_wp2_with fail
  refine (K6.out _).mono ?_
  rintro e w6 ⟨rfl, hb6⟩
  go_wp2_with fail
  refine (K3.out _).mono ?_
  rintro e w7 ⟨rfl, hb7⟩
  have hB := chain (chain (chain (chain (chain hb2 hb3) hb4) hb5) hb6) hb7
  have hh : w7.heap[w1.heap.size]? = some (.cells #[.int .i64 0, .complex .f64 0 0] 29 (0, 0)) := by rw [hB.block _ (by simp), alloc_new rfl]
  have c0 := cell_at hh 0
  have c1 := cell_at hh 1
  simp only [List.getElem?_toArray, List.getElem?_cons_zero, List.getElem?_cons_succ] at c0 c1
  clear hh
  go_wp2_with fail
  refine (K4.out _).mono ?_
  rintro e w8 ⟨rfl, hb8⟩
  go_wp2_with fail
  refine (known_calls _).mono ?_
  rintro e w9 ⟨rfl, hb9⟩
  go_wp2_with fail
  go_ret
  exact ⟨rfl, ((Below.refl _ _).alloc (Nat.le_refl _) _).trans ((hb1.mono (by simp)).trans (((Below.refl _ _).alloc (by have := hb1.size; simp at this; omega) _).trans ((chain (chain hB hb8) hb9).mono (by have := hb1.size; simp at this; simp; omega))))⟩
end Go.Proofs.Ytgddlcbaieclcaa.walkNumbers
