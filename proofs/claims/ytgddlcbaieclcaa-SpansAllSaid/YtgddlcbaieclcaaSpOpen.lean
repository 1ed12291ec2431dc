/-
  What a walk is told of a slice of spans that came in.
-/
import Derived.Test.YtgddlcbaieclcaaSpFns
import Derived.Deep.SlicePairs
import Derived.SizedLaws
import Derived.OpenShut
import Derived.ProofKit
namespace Go.Proofs.Ytgddlcbaieclcaa.SpOpen
open Go Go.RowKit Go.ChangeShapes Go.WideShapes Go.ChangeAt Go.Deep Go.Proofs.Ytgddlcbaieclcaa.Kit Go.Proofs.Ytgddlcbaieclcaa.SpFns

set_option maxRecDepth 100000 in
theorem open_spans {H : Type} {enc : TypeId × Value → H} {W : World} {base : Nat} {v : Value} {d : DataW H} {ps : List MemPlace} (hv : Value.okWide Try.prog W .any base 50 v)
    (h : DataW.Trod enc Try.prog W 0 (fun _ => true) true 50 v d ps) :
    ∃ (a : Option Addr) (len cap : Nat) (L Hh : Nat → Int), v = .slice a len cap ∧ Row W a len L Hh ∧ (∀ i, i < len → (Lit.int .i32 (L i)).wf = true ∧ (Lit.int .i32 (Hh i)).wf = true) ∧ ((d = .nil ∧ len = 0) ∨ ∃ el sp, d = .slice el sp ∧ el.length = len) := by
  obtain ⟨a, len, cap, rfl⟩ := okWide_slice Try.underlying50 hv
  obtain ⟨fuel, hf⟩ := h
  rcases open_slice_pairs Try.underlying50 Try.underlying53 (by kernel_rfl) rfl rfl (by kernel_rfl) (by kernel_rfl) hf with ⟨hcs, hx⟩ | ⟨x, l, c, m, n, V0, V1, D0, D1, P0, P1, hcs, _, hl, hm, hmm, hx, hall⟩
  · simp [Value.cells] at hcs
    obtain ⟨rfl, rfl, rfl⟩ := hcs
    simp only [Prod.mk.injEq] at hx
    exact ⟨none, 0, 0, fun _ => 0, fun _ => 0, rfl, .inl rfl, fun i hi => by omega, .inl ⟨hx.1, rfl⟩⟩
  · simp [Value.cells] at hcs
    obtain ⟨rfl, rfl, rfl⟩ := hcs
    simp only [Prod.mk.injEq] at hx
    obtain ⟨rfl, rfl⟩ := hx
    have hlm : len ≤ m := by rw [hmm]; simp; omega
    have each : ∀ i, i < len → ∃ q : Int × Int, V0 i = .int .i32 q.1 ∧ V1 i = .int .i32 q.2 ∧ (Lit.int .i32 q.1).wf = true ∧ (Lit.int .i32 q.2).wf = true := by
      intro i hi
      obtain ⟨_, _, h0, h1⟩ := hall i (by omega)
      obtain ⟨z0, e0, _, w0⟩ := DataW.trod_int Try.underlying21 h0
      obtain ⟨z1, e1, _, w1⟩ := DataW.trod_int Try.underlying21 h1
      simp at e0 e1
      exact ⟨(z0, z1), e0, e1, w0, w1⟩
    obtain ⟨q, hq⟩ := choose_lt each
    refine ⟨some x, len, cap, fun i => (q i).1, fun i => (q i).2, rfl, ?_, fun i hi => ⟨(hq i hi).2.2.1, (hq i hi).2.2.2⟩, .inr ⟨_, _, rfl, by simp⟩⟩
    rcases Nat.eq_zero_or_pos len with h0 | h0
    · exact .inl h0
    · obtain ⟨b, off, spot⟩ := x
      have g0 := (hall 0 (by omega)).1
      have hspot : spot = none := by simpa [Addr.add] using World.cell?_spot g0
      subst hspot
      refine .inr ⟨b, off, rfl, ?_, fun i hi => ?_⟩
      · have := lt_of_cell g0
        rw [Kit.add_plain] at this
        exact this
      · obtain ⟨h1, h2, _, _⟩ := hall i (by omega)
        rw [Kit.add_plain, (hq i hi).1] at h1
        rw [Kit.add_plain, (hq i hi).2.1] at h2
        exact ⟨h1, by rw [Nat.add_assoc]; exact h2⟩

theorem span_len {H : Type} {ts : List TypeId} {ds : List (DataW H)} (h : (DataW.weightsEach Try.prog ts ds).all (· ≤ reachBytes) = true) {j : Nat} {d : DataW H} (ht : ts[j]? = some 50) (hd : ds[j]? = some d) {len : Nat}
    (hl : (d = .nil ∧ len = 0) ∨ ∃ el sp, d = .slice el sp ∧ el.length = len) : len ≤ 17592186044416 := by
  rcases hl with ⟨_, rfl⟩ | ⟨el, sp, rfl, rfl⟩
  · omega
  · have h1 := sized_slice h ht hd Try.underlying50
    have h2 := reachBytes_lt
    rw [show Try.prog.bytesOf 53 = 8 by kernel_rfl] at h1
    omega
end Go.Proofs.Ytgddlcbaieclcaa.SpOpen
