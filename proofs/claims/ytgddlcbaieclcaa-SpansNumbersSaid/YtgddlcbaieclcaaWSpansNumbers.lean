/-
  The walk of the law SpansNumbers (a closed sentence).
-/
import Derived.Test.YtgddlcbaieclcaaSpMeet
namespace Go.Proofs.Ytgddlcbaieclcaa.spansNumbers
open Go Go.RowKit Go.Proofs.Ytgddlcbaieclcaa.Kit Go.Proofs.Ytgddlcbaieclcaa.SpFns Go.Proofs.Ytgddlcbaieclcaa.SpRight Go.Proofs.Ytgddlcbaieclcaa.SpFind Go.Proofs.Ytgddlcbaieclcaa.SpSize Go.Proofs.Ytgddlcbaieclcaa.SpKnown Go.Proofs.Ytgddlcbaieclcaa.SpLists Go.Proofs.Ytgddlcbaieclcaa.SpMeet

theorem r1 : rt (nth [5]) (nth [4]) 1 0 = (0, 15) := by decide
theorem r2 : rt (nth [55296]) (nth [57344]) 1 0 = (0, 14) := by decide
theorem r3 : rt (nth [1, 5]) (nth [2, 9]) 2 0 = (0, 0) := by decide
theorem r4 : rt (nth [9]) (nth [12]) 1 0 = (0, 0) := by decide
theorem r5 : rt (nth [1]) (nth [2]) 1 0 = (0, 0) := by decide
theorem r6 : rt (nth [3]) (nth [4]) 1 0 = (0, 0) := by decide
theorem m1 : fr (hit (nth [1, 5]) (nth [2, 9]) (nth [9]) (nth [12]) 1) 2 0 = (1, true) := by decide
theorem m2 : fr (hit (nth [1]) (nth [2]) (nth [3]) (nth [4]) 1) 1 0 = (0, false) := by decide
theorem s1 : sum (nth [0]) (nth [1114111]) 1 = 1112064 := by decide
set_option maxRecDepth 100000 in
theorem walk (w : World) :
    Calls Try.prog 13 #[] w fun e w' => e = .returned (.bool true) ∧ Below w.heap.size w w' := by
  have HB0 := Lib.hid (Below.refl w.heap.size w)
  go_enter Try.func13, Try.ntmps13
  go_wp2_with fail
  have c0 := Right_calls _ 1 1 _ _ _ (Row.one (alloc_new (w := w) (o := .cells #[.int .i32 5, .int .i32 4] 53) rfl)) (by decide)
  rw [r1] at c0
  refine c0.mono ?_
  rintro e w1 ⟨rfl, hb⟩
  have HB1 := Lib.hid (chain (HB0.out.alloc HB0.out.size _) hb)
  clear c0 hb
  go_wp2_with fail
  have c0 := Right_calls _ 1 1 _ _ _ (Row.one (alloc_new (w := w1) (o := .cells #[.int .i32 55296, .int .i32 57344] 53) rfl)) (by decide)
  rw [r2] at c0
  refine c0.mono ?_
  rintro e w2 ⟨rfl, hb⟩
  have HB2 := Lib.hid (chain (HB1.out.alloc HB1.out.size _) hb)
  clear c0 hb
  go_wp2_with fail
  have c0 := Right_calls none 0 0 (nth []) (nth []) w2 (.inl rfl) (by decide)
  rw [show rt (nth []) (nth []) 0 0 = (0, 0) from rfl] at c0
  refine c0.mono ?_
  rintro e w3 ⟨rfl, hb⟩
  have HB3 := Lib.hid (chain HB2.out hb)
  clear c0 hb
  go_wp2_with fail
  have hA : ((w3.alloc (.cells #[.int .i32 1, .int .i32 2, .int .i32 5, .int .i32 9] 53)).alloc (.cells #[.int .i32 9, .int .i32 12] 53)).heap[w3.heap.size]? = some (.cells #[.int .i32 1, .int .i32 2, .int .i32 5, .int .i32 9] 53 (0, 0)) := by rw [alloc_old (by simp)]; exact alloc_new rfl
  have hB : ((w3.alloc (.cells #[.int .i32 1, .int .i32 2, .int .i32 5, .int .i32 9] 53)).alloc (.cells #[.int .i32 9, .int .i32 12] 53)).heap[w3.heap.size + 1]? = some (.cells #[.int .i32 9, .int .i32 12] 53 (0, 0)) := alloc_new (by simp)
  have c0 := Meet_calls _ _ 2 2 1 1 _ _ _ _ _ (Row.two hA) (Row.one hB) (Rt.of (by rw [r3])) (Rt.of (by rw [r4]))
  rw [m1] at c0
  refine c0.mono ?_
  rintro e w4 ⟨rfl, hb⟩
  have h0 := HB3.out.alloc HB3.out.size (.cells #[.int .i32 1, .int .i32 2, .int .i32 5, .int .i32 9] 53)
  have HB4 := Lib.hid (chain (h0.alloc h0.size _) hb)
  clear c0 hb h0 hA hB
  go_wp2_with fail
  have hA : ((w4.alloc (.cells #[.int .i32 1, .int .i32 2] 53)).alloc (.cells #[.int .i32 3, .int .i32 4] 53)).heap[w4.heap.size]? = some (.cells #[.int .i32 1, .int .i32 2] 53 (0, 0)) := by rw [alloc_old (by simp)]; exact alloc_new rfl
  have hB : ((w4.alloc (.cells #[.int .i32 1, .int .i32 2] 53)).alloc (.cells #[.int .i32 3, .int .i32 4] 53)).heap[w4.heap.size + 1]? = some (.cells #[.int .i32 3, .int .i32 4] 53 (0, 0)) := alloc_new (by simp)
  have c0 := Meet_calls _ _ 1 1 1 1 _ _ _ _ _ (Row.one hA) (Row.one hB) (Rt.of (by rw [r5])) (Rt.of (by rw [r6]))
  rw [m2] at c0
  refine c0.mono ?_
  rintro e w5 ⟨rfl, hb⟩
  have h0 := HB4.out.alloc HB4.out.size (.cells #[.int .i32 1, .int .i32 2] 53)
  have HB5 := Lib.hid (chain (h0.alloc h0.size _) hb)
  clear c0 hb h0 hA hB
  go_wp2_with fail
  have c0 := Size_calls _ 1 1 _ _ _ (Row.one (alloc_new (w := w5) (o := .cells #[.int .i32 0, .int .i32 1114111] 53) rfl)) (by decide)
  rw [s1] at c0
  refine c0.mono ?_
  rintro e w6 ⟨rfl, hb⟩
  have HB6 := Lib.hid (chain (HB5.out.alloc HB5.out.size _) hb)
  clear c0 hb
  go_wp2_with fail
  have c0 := In_calls none 0 0 (nth []) (nth []) 65 0 w6 (.inl rfl) (by decide) ⟨Nat.le_refl _, fun k hk => by omega, fun k _ hk => by omega⟩
  rw [show decide (VR 65 ∧ 0 < 0 ∧ nth [] 0 ≤ 65) = false by decide] at c0
  refine c0.mono ?_
  rintro e w7 ⟨rfl, hb⟩
  have HB7 := Lib.hid (chain HB6.out hb)
  clear c0 hb
  go_wp2_with fail
  refine (known_calls w7).mono ?_
  rintro e w8 ⟨rfl, hb⟩
  have HB8 := Lib.hid (chain HB7.out hb)
  clear hb
  go_wp2
  go_ret
  exact ⟨rfl, HB8.out⟩
end Go.Proofs.Ytgddlcbaieclcaa.spansNumbers
