/-
  A slice of numbers that came in, as a row.
-/
import Derived.Test.YtendkmldecoogaaDoorSameInt
import Derived.ProofKit
import Derived.OpenShut
namespace Go.Proofs.YtendkmldecoogaaDoor.RowInt
open Go Go.RowKit Go.Proofs.YtendkmldecoogaaDoor.Kit Go.Proofs.YtendkmldecoogaaDoor.SameInt

theorem row_of {w : World} {a : Option Addr} {len cap : Nat} {zs : List Int} (h : IsRow .i64 w a len cap zs) :
    Row w a len (fun i => zs.getD i 0) ∧ ∀ i, i < len → -9223372036854775808 ≤ zs.getD i 0 ∧ zs.getD i 0 ≤ 9223372036854775807 := by
  rcases Nat.eq_zero_or_pos len with h0 | h0
  · exact ⟨.inl h0, fun i hi => by omega⟩
  · obtain ⟨b, off, rfl, hb, hc, hw⟩ := h.at h0
    refine ⟨.inr ⟨b, off, rfl, hb, hc⟩, fun i hi => ?_⟩
    rcases hw i with h1 | h1
    · exact bounds_i64 h1
    · omega
end Go.Proofs.YtendkmldecoogaaDoor.RowInt
