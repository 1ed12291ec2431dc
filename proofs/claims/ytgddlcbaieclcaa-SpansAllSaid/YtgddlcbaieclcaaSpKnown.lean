/-
  tesseralaw3.known.
-/
import Derived.Test.YtgddlcbaieclcaaSpRight
import Derived.Test.YtgddlcbaieclcaaSpFind
import Derived.Test.YtgddlcbaieclcaaSpSize
namespace Go.Proofs.Ytgddlcbaieclcaa.SpKnown
open Go Go.RowKit Go.Proofs.Ytgddlcbaieclcaa.Kit Go.Proofs.Ytgddlcbaieclcaa.SpFns Go.Proofs.Ytgddlcbaieclcaa.SpRight Go.Proofs.Ytgddlcbaieclcaa.SpFind Go.Proofs.Ytgddlcbaieclcaa.SpSize
attribute [local irreducible] wpQuiet

def nth (l : List Int) (i : Nat) : Int := l.getD i 0

theorem Row.two {w : World} {n : Nat} {l0 h0 l1 h1 : Int} {t : TypeId} {fr : Nat × Nat} (h : w.heap[n]? = some (.cells #[.int .i32 l0, .int .i32 h0, .int .i32 l1, .int .i32 h1] t fr)) : Row w (some ⟨n, 0, none⟩) 2 (nth [l0, l1]) (nth [h0, h1]) := by
  refine .inr ⟨n, 0, rfl, lt_of_heap h, fun i hi => ?_⟩
  have hh : i = 0 ∨ i = 1 := by omega
  rcases hh with rfl | rfl
  · exact ⟨cell_at h 0, cell_at h 1⟩
  · exact ⟨cell_at h 2, cell_at h 3⟩
theorem Row.one {w : World} {n : Nat} {l0 h0 : Int} {t : TypeId} {fr : Nat × Nat} (h : w.heap[n]? = some (.cells #[.int .i32 l0, .int .i32 h0] t fr)) : Row w (some ⟨n, 0, none⟩) 1 (nth [l0]) (nth [h0]) := by
  refine .inr ⟨n, 0, rfl, lt_of_heap h, fun i hi => ?_⟩
  have hh : i = 0 := by omega
  subst hh
  exact ⟨cell_at h 0, cell_at h 1⟩

theorem rt1 : rt (nth [65, 90]) (nth [90, 91]) 2 0 = (1, 15) := by decide
theorem cut1 : Cut (nth [90]) 1 90 0 := by
  refine ⟨by decide, fun k hk => by omega, fun k _ hk => ?_⟩
  have : k = 0 := by omega
  subst this
  decide
theorem in1 : decide (VR 90 ∧ 0 < 1 ∧ nth [65] 0 ≤ 90) = true := by decide
theorem sum1 : sum (nth [55295]) (nth [57344]) 1 = 2 := by decide

set_option maxRecDepth 100000 in
theorem known_calls (w : World) :
    Calls Try.prog 35 #[] w fun e w' => e = .returned (.bool true) ∧ Below w.heap.size w w' := by
  go_enter Try.func35, Try.ntmps35
  go_wp2_with fail
  have hB0 := (Below.refl w.heap.size w).alloc (Nat.le_refl _) (.cells #[.int .i32 65, .int .i32 90, .int .i32 90, .int .i32 91] 53)
  have c0 := Right_calls _ 2 2 _ _ _ (Row.two (alloc_new (w := w) (o := .cells #[.int .i32 65, .int .i32 90, .int .i32 90, .int .i32 91] 53) rfl)) (by decide)
  rw [rt1] at c0
  refine c0.mono ?_
  rintro e w1 ⟨rfl, hb⟩
  have HB1 := Lib.hid (chain hB0 hb)
  clear c0 hb hB0
  go_wp2_with fail
  have c0 := In_calls _ 1 1 _ _ 90 0 _ (Row.one (alloc_new (w := w1) (o := .cells #[.int .i32 65, .int .i32 90] 53) rfl)) (by decide) cut1
  rw [in1] at c0
  refine c0.mono ?_
  rintro e w2 ⟨rfl, hb⟩
  have HB2 := Lib.hid (chain (HB1.out.alloc HB1.out.size _) hb)
  clear c0 hb
  go_wp2_with fail
  have c0 := Size_calls _ 1 1 _ _ _ (Row.one (alloc_new (w := w2) (o := .cells #[.int .i32 55295, .int .i32 57344] 53) rfl)) (by decide)
  rw [sum1] at c0
  refine c0.mono ?_
  rintro e w3 ⟨rfl, hb⟩
  have HB3 := Lib.hid (chain (HB2.out.alloc HB2.out.size _) hb)
  clear c0 hb
  go_wp2
  go_ret
  exact ⟨rfl, HB3.out⟩
end Go.Proofs.Ytgddlcbaieclcaa.SpKnown
