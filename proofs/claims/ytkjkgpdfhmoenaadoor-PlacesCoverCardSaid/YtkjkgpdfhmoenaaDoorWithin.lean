/-
  tesserabook.Within.
-/
import Derived.Test.YtkjkgpdfhmoenaaDoorProg
import Derived.Test.YtkjkgpdfhmoenaaDoorKit
namespace Go.Proofs.YtkjkgpdfhmoenaaDoor.Within
open Go Go.RowKit Go.Proofs.YtkjkgpdfhmoenaaDoor.Kit

/-- A number brought into lo .. hi. -/
theorem Within_calls (n lo hi : Int) (w : World) (h1 : lo ≤ hi) (h2 : -2199023255552 ≤ lo) (h3 : hi ≤ 2199023255552) (_h4 : -9223372036854775808 ≤ n) (_h5 : n ≤ 9223372036854775807) :
    Calls Tryd.prog 18 #[.int .i64 n, .int .i64 lo, .int .i64 hi] w fun e w' => e = .returned (.int .i64 (lo + n % (hi - lo + 1))) ∧ w = w' := by
  obtain ⟨m, hm⟩ : ∃ m, m = hi - lo + 1 := ⟨_, rfl⟩
  have hm1 : 0 < m := by omega
  have hm2 : m ≤ 4398046511105 := by omega
  have ht := Int.tmod_add_mul_tdiv n m
  have b1 := Int.lt_tmod_of_pos n hm1
  have b2 := Int.tmod_lt_of_pos n hm1
  have hn0 : hi - lo + 1 ≠ 0 := by omega
  have hres : (if n.tmod m < 0 then n.tmod m + m else n.tmod m) = n % m := by
    have hq : n = n.tmod m + m * n.tdiv m := ht.symm
    split
    · rename_i hneg
      have h := Int.add_mul_emod_self_left (n.tmod m + m) m (n.tdiv m - 1)
      rw [show n.tmod m + m + m * (n.tdiv m - 1) = n by rw [Int.mul_sub]; omega] at h
      rw [h, Int.emod_eq_of_lt (by omega) (by omega)]
    · rename_i hneg
      have h := Int.add_mul_emod_self_left (n.tmod m) m (n.tdiv m)
      rw [ht] at h
      rw [h, Int.emod_eq_of_lt (by omega) (by omega)]
  rw [← hm]
  rw [← hres]
  clear ht hres
  have HM := Lib.hid hm
  by_cases hneg : n.tmod m < 0
  · rw [if_pos hneg]
    rw [hm] at hneg b1 b2
    clear hm hm1
    go_enter Tryd.func18, Tryd.ntmps18
    go_wp2
    go_ret
    exact ⟨ret_int (by rw [HM.out]; omega), rfl⟩
  · rw [if_neg hneg]
    rw [hm] at hneg b1 b2
    clear hm hm1
    go_enter Tryd.func18, Tryd.ntmps18
    go_wp2
    go_ret
    exact ⟨ret_int (by rw [HM.out]), rfl⟩
end Go.Proofs.YtkjkgpdfhmoenaaDoor.Within
