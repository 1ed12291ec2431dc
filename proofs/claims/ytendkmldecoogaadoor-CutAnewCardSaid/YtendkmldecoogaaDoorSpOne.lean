/-
  Lists of one span or of two, as they lie in memory.
-/
import Derived.Test.YtendkmldecoogaaDoorSpFns
namespace Go.Proofs.YtendkmldecoogaaDoor.SpKnown
open Go Go.RowKit Go.Proofs.YtendkmldecoogaaDoor.Kit Go.Proofs.YtendkmldecoogaaDoor.SpFns

def nth (l : List Int) (i : Nat) : Int := l.getD i 0

theorem Row.two {w : World} {n : Nat} {l0 h0 l1 h1 : Int} {t : TypeId} {fr : Nat × Nat} (h : w.heap[n]? = some (.cells #[.int .i32 l0, .int .i32 h0, .int .i32 l1, .int .i32 h1] t fr)) : Row w (some ⟨n, 0, none⟩) 2 (nth [l0, l1]) (nth [h0, h1]) := by
  refine .inr ⟨n, 0, rfl, lt_of_heap h, fun i hi => ?_⟩
  have hh : i = 0 ∨ i = 1 := by omega
  rcases hh with rfl | rfl
  · exact ⟨cell_at h 0, cell_at h 1⟩
  · exact ⟨cell_at h 2, cell_at h 3⟩
theorem Row.one {w : World} {n : Nat} {l0 h0 : Int} {t : TypeId} {fr : Nat × Nat} (h : w.heap[n]? = some (.cells #[.int .i32 l0, .int .i32 h0] t fr)) : Row w (some ⟨n, 0, none⟩) 1 (nth [l0]) (nth [h0]) := by
  refine .inr ⟨n, 0, rfl, lt_of_heap h, fun i hi => ?_⟩
  have hh : i = 0 := by omega
  subst hh
  exact ⟨cell_at h 0, cell_at h 1⟩

end Go.Proofs.YtendkmldecoogaaDoor.SpKnown
