/-
  Chapter 20's known runs come out true, whatever the memory; the reference's Back.
-/
import Derived.Test.YtgddlcbaieclcaaWalkLawFns
namespace Go.Proofs.Ytgddlcbaieclcaa.WalkFns
open Go Go.RowKit Go.Proofs.Ytgddlcbaieclcaa.WalkNum Go.Proofs.Ytgddlcbaieclcaa.Kit

set_option maxRecDepth 100000 in
theorem known_calls (w : World) :
    Calls Try.prog 23 #[] w fun e w' => e = .returned (.bool true) ∧ Below w.heap.size w w' := by
  have i1 : IsB (wkB B0 [97, 98]) ⟨3, 23, 26⟩ := wkB_is B0_is [97, 98] (by decide) (by decide)
  have i2 : IsB (byteB 97) ⟨1, 25, 1⟩ := byteB_is 97 (by decide) (by decide)
  have k1 := is_yes i1
  have k2 := is_yes i2
  have K1 := Lib.hid k1
  have K2 := Lib.hid k2
  clear k1 k2 i1 i2
  unfold WB.val W3.val at K1 K2
  go_enter Try.func23, Try.ntmps23
  go_wp2_with fail
  refine (Of_calls ⟨#[97, 98]⟩ (by decide) _).mono ?_
  rintro e w1 ⟨rfl, hb1⟩
  go_wp2_with fail
  refine (K1.out _).mono ?_
  rintro e w2 ⟨rfl, hb2⟩
  go_wp2_with fail
  refine (Byte_calls 97 (by decide) (by decide) _).mono ?_
  rintro e w3 ⟨rfl, hb3⟩
  go_wp2_with fail
  refine (K2.out _).mono ?_
  rintro e w4 ⟨rfl, hb4⟩
  go_wp2_with fail
  go_ret
  exact ⟨rfl, chain (chain (chain hb1 hb2) hb3) hb4⟩

set_option maxRecDepth 100000 in
theorem refBack_calls (a : W3) (h0 : 0 ≤ a.t) (h1 : a.t < 4) (hax : a.x.natAbs ≤ 1000000000000000) (hay : a.y.natAbs ≤ 1000000000000000) (w : World) :
    Calls Try.prog 29 #[a.val] w fun e w' => e = .returned (BackW a).val ∧ Below w.heap.size w w' := by
  obtain ⟨t, x, y⟩ := a
  simp only at h0 h1 hax hay
  have hj : ∀ w, Calls Try.prog 28 #[.agg #[.int .i64 (-t % 4), .int .i64 0, .int .i64 0], .agg #[.int .i64 0, .int .i64 (-x), .int .i64 (-y)]] w fun e w' => e = .returned (BackW ⟨t, x, y⟩).val ∧ Below w.heap.size w w' := by
    have h := refJoin_calls ⟨-t % 4, 0, 0⟩ ⟨0, -x, -y⟩ (by simp only []; omega) (by simp only []; omega) (by simp only []; omega) (by simp only []; omega) (by simp only []; omega) (by simp only []; omega) (by simp only []; omega) (by simp only []; omega)
    have e : J ⟨-t % 4, 0, 0⟩ ⟨0, -x, -y⟩ = BackW ⟨t, x, y⟩ := by
      have ht : t = 0 ∨ t = 1 ∨ t = 2 ∨ t = 3 := by omega
      rcases ht with rfl | rfl | rfl | rfl <;> simp [J, BackW, rot]
    rw [e] at h
    exact h
  have HJ := Lib.hid hj
  clear hj
  simp only [W3.val] at HJ
  have h4 : 0 ≤ 4 - t := by omega
  go_enter Try.func29, Try.ntmps29
  go_wp2_with fail
  with_reducible refine (HJ.out _).mono ?_
  rintro e w1 ⟨rfl, hb1⟩
  have hz := hb1.size
  simp only [World.size_alloc] at hz
  have hh : w1.heap[w.heap.size + 1]? = some (.cells #[.int .i64 0, .int .i64 0, .int .i64 0] 24 (0, 0)) := by rw [hb1.block _ (by simp), alloc_new (by simp)]
  have hB := ((((Below.refl w.heap.size w).alloc (Nat.le_refl _) _).alloc (by simp) _)).trans (hb1.mono (by simp; omega))
  have c0 := cell_at hh 0
  have c1 := cell_at hh 1
  have c2 := cell_at hh 2
  have f0 := free_at hh 0
  have f1 := free_at hh 1
  have f2 := free_at hh 2
  simp only [List.getElem?_toArray, List.getElem?_cons_zero, List.getElem?_cons_succ] at c0 c1 c2
  have hBs := hB.size
  have hne : w.heap.size + 1 ≠ w1.heap.size := by omega
  have hlt : w.heap.size + 1 < w1.heap.size := by omega
  clear hh
  go_wp2
  refine bodyPost_ret (v := .agg #[.int .i64 (BackW ⟨t, x, y⟩).t, .int .i64 (BackW ⟨t, x, y⟩).x, .int .i64 (BackW ⟨t, x, y⟩).y]) (by simp [results, Try.results29, go_sem, *]) rfl ⟨rfl, ?_⟩
  exact (by repeat (first | exact Below.refl _ _ | apply Below.drew | assumption | (refine Below.alloc ?_ (by first | omega | (simp; done) | (simp <;> omega)) _) | (refine Below.setCell ?_ (by first | omega | (simp; done) | (simp <;> omega)) _)))

/-- A number brought into lo .. hi. -/
theorem Within_calls (n lo hi : Int) (w : World) (h1 : lo ≤ hi) (h2 : -2199023255552 ≤ lo) (h3 : hi ≤ 2199023255552) (_h4 : -9223372036854775808 ≤ n) (_h5 : n ≤ 9223372036854775807) :
    Calls Try.prog 26 #[.int .i64 n, .int .i64 lo, .int .i64 hi] w fun e w' => e = .returned (.int .i64 (lo + n % (hi - lo + 1))) ∧ w = w' := by
  obtain ⟨m, hm⟩ : ∃ m, m = hi - lo + 1 := ⟨_, rfl⟩
  have hm1 : 0 < m := by omega
  have hm2 : m ≤ 4398046511105 := by omega
  have ht := Int.tmod_add_mul_tdiv n m
  have b1 := Int.lt_tmod_of_pos n hm1
  have b2 := Int.tmod_lt_of_pos n hm1
  have hn0 : hi - lo + 1 ≠ 0 := by omega
  have hres : (if n.tmod m < 0 then n.tmod m + m else n.tmod m) = n % m := by
    have hq : n = n.tmod m + m * n.tdiv m := ht.symm
    split
    · rename_i hneg
      have h := Int.add_mul_emod_self_left (n.tmod m + m) m (n.tdiv m - 1)
      rw [show n.tmod m + m + m * (n.tdiv m - 1) = n by rw [Int.mul_sub]; omega] at h
      rw [h, Int.emod_eq_of_lt (by omega) (by omega)]
    · rename_i hneg
      have h := Int.add_mul_emod_self_left (n.tmod m) m (n.tdiv m)
      rw [ht] at h
      rw [h, Int.emod_eq_of_lt (by omega) (by omega)]
  rw [← hm]
  rw [← hres]
  clear ht hres
  have HM := Lib.hid hm
  by_cases hneg : n.tmod m < 0
  · rw [if_pos hneg]
    rw [hm] at hneg b1 b2
    clear hm hm1
    go_enter Try.func26, Try.ntmps26
    go_wp2
    go_ret
    exact ⟨ret_int (by rw [HM.out]; omega), rfl⟩
  · rw [if_neg hneg]
    rw [hm] at hneg b1 b2
    clear hm hm1
    go_enter Try.func26, Try.ntmps26
    go_wp2
    go_ret
    exact ⟨ret_int (by rw [HM.out]), rfl⟩

end Go.Proofs.Ytgddlcbaieclcaa.WalkFns
