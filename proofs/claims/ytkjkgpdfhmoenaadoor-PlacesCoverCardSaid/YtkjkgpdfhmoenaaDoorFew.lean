/-
  The first bytes of a text.
-/
import Derived.Test.YtkjkgpdfhmoenaaDoorKit
namespace Go.Proofs.YtkjkgpdfhmoenaaDoor.Few
open Go Go.RowKit Go.Proofs.YtkjkgpdfhmoenaaDoor.Kit
def few (s : ByteArray) (n : Nat) : ByteArray := if n < s.size then s.extract 0 n else s
theorem few_size (s : ByteArray) (n : Nat) : (few s n).size ≤ n ∧ (few s n).size ≤ s.size := by
  unfold few
  split
  · simp; omega
  · omega
end Go.Proofs.YtkjkgpdfhmoenaaDoor.Few
