/-
  A list of texts that came in.
-/
import Derived.Test.YtkjkgpdfhmoenaaDoorDataOpen
namespace Go.Proofs.YtkjkgpdfhmoenaaDoor.TextsOpen
open Go Go.RowKit Go.Deep Go.ChangeShapes Go.WideShapes Go.ChangeAt Go.Proofs.YtkjkgpdfhmoenaaDoor.Kit Go.Proofs.YtkjkgpdfhmoenaaDoor.Dt Go.Proofs.YtkjkgpdfhmoenaaDoor.DataOpen

set_option maxRecDepth 100000 in
theorem open_texts {H : Type} {enc : TypeId × Value → H} {W : World} {base : Nat} {v : Value} {d : DataW H} {ps : List MemPlace} (hv : Value.okWide Tryd.prog W .any base 22 v) (h : DataW.Trod enc Tryd.prog W 0 (fun _ => true) true 22 v d ps)
    {ts : List TypeId} {ds : List (DataW H)} (hz : (DataW.weightsEach Tryd.prog ts ds).all (· ≤ reachBytes) = true) {j : Nat} (ht : ts[j]? = some 22) (hd : ds[j]? = some d) :
    ∃ (a : Option Addr) (len cap : Nat) (T : Nat → ByteArray), v = .slice a len cap ∧ len ≤ cap ∧ WRow W a len T ∧ len ≤ 8796093022208 ∧ ∀ i, i < len → (T i).size ≤ 140737488355328 := by
  obtain ⟨a, len, cap, rfl⟩ := okWide_slice Tryd.underlying22 hv
  obtain ⟨fuel, hf⟩ := h
  exact open_words (x := (d, ps)) hf (fun n hn => by
    have := List.all_eq_true.1 hz n (DataW.weights_mem_each ht hd n hn)
    simpa using this)
end Go.Proofs.YtkjkgpdfhmoenaaDoor.TextsOpen
