/-
  What a walk is told of a slice of integers that came in.
-/
import Derived.Test.YtgddlcbaieclcaaProg
import Derived.Test.YtgddlcbaieclcaaKit
import Derived.SizedLaws
import Derived.OpenShut
import Derived.ProofKit
namespace Go.Proofs.Ytgddlcbaieclcaa.Opens
open Go Go.RowKit Go.ChangeShapes Go.WideShapes Go.ChangeAt Go.Proofs.Ytgddlcbaieclcaa.Kit

theorem open_row {H : Type} {enc : TypeId × Value → H} {P : Program} {W : World} {base : Nat} {v : Value} {d : DataW H} {ps : List MemPlace} {t e : TypeId} {k : IntKind} (ht : P.underlying t = some (.slice e)) (he : P.underlying e = some (.int k)) (hc : P.cellsOf e = 1)
    (hv : Value.okWide P W .any base t v) (h : DataW.Trod enc P W 0 (fun _ => true) true t v d ps) :
    ∃ (a : Option Addr) (len cap : Nat) (zs : List Int), v = .slice a len cap ∧ IsRow k W a len cap zs ∧ ((d = .nil ∧ len = 0) ∨ ∃ el sp, d = .slice el sp ∧ el.length = len) := by
  obtain ⟨a, len, cap, rfl⟩ := okWide_slice ht hv
  obtain ⟨fuel, hf⟩ := h
  rcases open_ints ht he hc hf with ⟨hcs, hx⟩ | ⟨x, l, c, zs, hcs, _, hl, hm, hz, hx, hcell, hwz⟩
  · simp [Value.cells] at hcs
    obtain ⟨rfl, rfl, rfl⟩ := hcs
    simp only [Prod.mk.injEq] at hx
    exact ⟨none, 0, 0, [], rfl, .inl ⟨rfl, rfl, rfl, rfl⟩, .inl ⟨hx.1, rfl⟩⟩
  · simp [Value.cells] at hcs
    obtain ⟨rfl, rfl, rfl⟩ := hcs
    simp only [Prod.mk.injEq] at hx
    have hz' : zs.length = cap := by simpa using hz
    exact ⟨some x, len, cap, zs, rfl, .inr ⟨_, rfl, hl, hm, hz', hcell, hwz⟩, .inr ⟨_, _, hx.1, by simp [lits]; omega⟩⟩

theorem row_len {H : Type} {P : Program} {ts : List TypeId} {ds : List (DataW H)} {t e : TypeId} {k : Nat} (hu : P.underlying t = some (.slice e)) (hb : P.bytesOf e = k) (hk : 4 ≤ k) (h : (DataW.weightsEach P ts ds).all (· ≤ reachBytes) = true) {j : Nat} {d : DataW H} (ht : ts[j]? = some t) (hd : ds[j]? = some d) {len : Nat}
    (hl : (d = .nil ∧ len = 0) ∨ ∃ el sp, d = .slice el sp ∧ el.length = len) : len ≤ 35184372088832 := by
  rcases hl with ⟨_, rfl⟩ | ⟨el, sp, rfl, rfl⟩
  · omega
  · have h1 := sized_slice h ht hd hu
    have h2 := reachBytes_lt
    rw [hb] at h1
    have h3 : el.length * 4 ≤ (el.length + sp.length) * k := Nat.mul_le_mul (by omega) hk
    omega

set_option maxRecDepth 100000 in
theorem open_row_i64 {H : Type} {enc : TypeId × Value → H} {W : World} {base : Nat} {v : Value} {d : DataW H} {ps : List MemPlace} (hv : Value.okWide Try.prog W .any base 38 v) (h : DataW.Trod enc Try.prog W 0 (fun _ => true) true 38 v d ps) :
    ∃ (a : Option Addr) (len cap : Nat) (zs : List Int), v = .slice a len cap ∧ IsRow .i64 W a len cap zs ∧ ((d = .nil ∧ len = 0) ∨ ∃ el sp, d = .slice el sp ∧ el.length = len) :=
  open_row Try.underlying38 Try.underlying3 (by kernel_rfl) hv h
set_option maxRecDepth 100000 in
theorem row_len_i64 {H : Type} {ts : List TypeId} {ds : List (DataW H)} (h : (DataW.weightsEach Try.prog ts ds).all (· ≤ reachBytes) = true) {j : Nat} {d : DataW H} (ht : ts[j]? = some 38) (hd : ds[j]? = some d) {len : Nat}
    (hl : (d = .nil ∧ len = 0) ∨ ∃ el sp, d = .slice el sp ∧ el.length = len) : len ≤ 35184372088832 :=
  row_len Try.underlying38 (k := 8) (by kernel_rfl) (by decide) h ht hd hl
end Go.Proofs.Ytgddlcbaieclcaa.Opens
