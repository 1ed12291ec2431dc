/-
  What a walk is told of a slice of runes that came in.
-/
import Derived.Test.YtgddlcbaieclcaaOpens
namespace Go.Proofs.Ytgddlcbaieclcaa.Opens32
open Go Go.RowKit Go.ChangeShapes Go.WideShapes Go.ChangeAt Go.Proofs.Ytgddlcbaieclcaa.Kit Go.Proofs.Ytgddlcbaieclcaa.Opens
set_option maxRecDepth 100000 in
theorem open_row_i32 {H : Type} {enc : TypeId × Value → H} {W : World} {base : Nat} {v : Value} {d : DataW H} {ps : List MemPlace} (hv : Value.okWide Try.prog W .any base 98 v) (h : DataW.Trod enc Try.prog W 0 (fun _ => true) true 98 v d ps) :
    ∃ (a : Option Addr) (len cap : Nat) (zs : List Int), v = .slice a len cap ∧ IsRow .i32 W a len cap zs ∧ ((d = .nil ∧ len = 0) ∨ ∃ el sp, d = .slice el sp ∧ el.length = len) :=
  open_row Try.underlying98 Try.underlying21 (by kernel_rfl) hv h
set_option maxRecDepth 100000 in
theorem row_len_i32 {H : Type} {ts : List TypeId} {ds : List (DataW H)} (h : (DataW.weightsEach Try.prog ts ds).all (· ≤ reachBytes) = true) {j : Nat} {d : DataW H} (ht : ts[j]? = some 98) (hd : ds[j]? = some d) {len : Nat}
    (hl : (d = .nil ∧ len = 0) ∨ ∃ el sp, d = .slice el sp ∧ el.length = len) : len ≤ 35184372088832 :=
  row_len Try.underlying98 (k := 4) (by kernel_rfl) (by decide) h ht hd hl
end Go.Proofs.Ytgddlcbaieclcaa.Opens32
