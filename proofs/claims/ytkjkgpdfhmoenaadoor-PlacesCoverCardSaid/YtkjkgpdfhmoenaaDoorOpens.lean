/-
  What a walk is told of a slice of integers that came in.
-/
import Derived.Test.YtkjkgpdfhmoenaaDoorProg
import Derived.Test.YtkjkgpdfhmoenaaDoorKit
import Derived.SizedLaws
import Derived.OpenShut
import Derived.ProofKit
import Derived.Deep.Slices
namespace Go.Proofs.YtkjkgpdfhmoenaaDoor.Opens
open Go Go.RowKit Go.Deep Go.ChangeShapes Go.WideShapes Go.ChangeAt Go.Proofs.YtkjkgpdfhmoenaaDoor.Kit

theorem open_row {H : Type} {enc : TypeId × Value → H} {P : Program} {W : World} {base : Nat} {v : Value} {d : DataW H} {ps : List MemPlace} {t e : TypeId} {k : IntKind} (ht : P.underlying t = some (.slice e)) (he : P.underlying e = some (.int k)) (hc : P.cellsOf e = 1)
    (hv : Value.okWide P W .any base t v) (h : DataW.Trod enc P W 0 (fun _ => true) true t v d ps) :
    ∃ (a : Option Addr) (len cap : Nat) (zs : List Int), v = .slice a len cap ∧ IsRow k W a len cap zs ∧ ((d = .nil ∧ len = 0) ∨ ∃ el sp, d = .slice el sp ∧ el.length = len) := by
  obtain ⟨a, len, cap, rfl⟩ := okWide_slice ht hv
  obtain ⟨fuel, hf⟩ := h
  rcases open_ints ht he hc hf with ⟨hcs, hx⟩ | ⟨x, l, c, zs, hcs, _, hl, hm, hz, hx, hcell, hwz⟩
  · simp [Value.cells] at hcs
    obtain ⟨rfl, rfl, rfl⟩ := hcs
    simp only [Prod.mk.injEq] at hx
    exact ⟨none, 0, 0, [], rfl, .inl ⟨rfl, rfl, rfl, rfl⟩, .inl ⟨hx.1, rfl⟩⟩
  · simp [Value.cells] at hcs
    obtain ⟨rfl, rfl, rfl⟩ := hcs
    simp only [Prod.mk.injEq] at hx
    have hz' : zs.length = cap := by simpa using hz
    exact ⟨some x, len, cap, zs, rfl, .inr ⟨_, rfl, hl, hm, hz', hcell, hwz⟩, .inr ⟨_, _, hx.1, by simp [lits]; omega⟩⟩

/-- A slice that came in, element by element: the cells, and that they read as an element. -/
theorem open_rows {H : Type} {enc : TypeId × Value → H} {P : Program} {W : World} {base : Nat} {v : Value} {d : DataW H} {ps : List MemPlace} {t e : TypeId} {n : Nat} (ht : P.underlying t = some (.slice e)) (hc : P.cellsOf e = n) (hn : 0 < n)
    (hv : Value.okWide P W .any base t v) (h : DataW.Trod enc P W 0 (fun _ => true) true t v d ps) :
    ∃ (a : Option Addr) (len cap : Nat) (C : Nat → List Value), v = .slice a len cap ∧
      (len = 0 ∨ ∃ b off, a = some ⟨b, off, none⟩ ∧ b < W.heap.size ∧ ∀ i, i < len → ∀ j, j < n → W.cell? ⟨b, off + i * n + j, none⟩ = some ((C i).getD j undef)) ∧
      (∀ i, i < len → (C i).length = n ∧ ∃ m y, DataW.trod enc P W 0 (fun _ => true) true m e (C i) = some y) ∧ ((d = .nil ∧ len = 0) ∨ ∃ el sp, d = .slice el sp ∧ el.length = len) := by
  obtain ⟨a, len, cap, rfl⟩ := okWide_slice ht hv
  obtain ⟨fuel, hf⟩ := h
  rcases open_slice ht hf with ⟨hcs, hx⟩ | ⟨x, l, c, m, k, D, Pl, hcs, _, hl, hm, hmm, hx, hall⟩
  · simp [Value.cells] at hcs
    obtain ⟨rfl, rfl, rfl⟩ := hcs
    simp only [Prod.mk.injEq] at hx
    exact ⟨none, 0, 0, fun _ => [], rfl, .inl rfl, fun i hi => by omega, .inl ⟨hx.1, rfl⟩⟩
  · simp [Value.cells] at hcs
    obtain ⟨rfl, rfl, rfl⟩ := hcs
    simp only [Prod.mk.injEq] at hx
    have hlm : len ≤ m := by rw [hmm]; simp; omega
    have each : ∀ i, i < len → ∃ q : List Value, q.length = n ∧ (∀ j, j < n → W.cell? ((x.add (i * n)).add j) = some (q.getD j undef)) ∧ ∃ m y, DataW.trod enc P W 0 (fun _ => true) true m e q = some y := by
      intro i hi
      obtain ⟨cs', h1, h2⟩ := hall i (by omega)
      rw [hc] at h1
      obtain ⟨_, hlen, hcell⟩ := World.cells?_some h1
      refine ⟨cs', hlen, fun j hj => ?_, _, _, h2⟩
      rw [hcell j (by omega)]
      simp [List.getD, hlen, hj]
    obtain ⟨q, hq⟩ := choose_lt each
    refine ⟨some x, len, cap, q, rfl, ?_, fun i hi => ⟨(hq i hi).1, (hq i hi).2.2⟩, .inr ⟨_, _, hx.1, by simp⟩⟩
    rcases Nat.eq_zero_or_pos len with h0 | h0
    · exact .inl h0
    · obtain ⟨b, off, spot⟩ := x
      have g0 := (hq 0 h0).2.1 0 hn
      have hspot : spot = none := by simpa [Addr.add] using World.cell?_spot g0
      subst hspot
      refine .inr ⟨b, off, rfl, ?_, fun i hi j hj => ?_⟩
      · have := lt_of_cell g0
        rw [Kit.add_plain, Kit.add_plain] at this
        exact this
      · have := (hq i hi).2.1 j hj
        rwa [Kit.add_plain, Kit.add_plain] at this

/-- A field of what reads as a struct. -/
theorem open_field {H : Type} {enc : TypeId × Value → H} {P : Program} {W : World} {fuel : Nat} {cs : List Value} {x : DataW H × List MemPlace} {t : TypeId} {fs : Array Field} (ht : P.underlying t = some (.struct fs))
    (h : DataW.trod enc P W 0 (fun _ => true) true fuel t cs = some x) {i : Nat} {f : Field} (hf : fs[i]? = some f) :
    ∃ m y, DataW.trod enc P W 0 (fun _ => true) true m f.type ((cs.drop f.offset).take (P.cellsOf f.type)) = some y := by
  obtain ⟨xs, n, _, _, _, hl, hg⟩ := DataW.trod_struct ht h
  have hi : i < xs.length := by rw [hl]; exact (Array.getElem?_eq_some_iff.1 hf).1
  exact ⟨n, xs[i], by rw [hg i f hf]; simp [hi]⟩

theorem row_len {H : Type} {P : Program} {ts : List TypeId} {ds : List (DataW H)} {t e : TypeId} {k : Nat} (hu : P.underlying t = some (.slice e)) (hb : P.bytesOf e = k) (hk : 4 ≤ k) (h : (DataW.weightsEach P ts ds).all (· ≤ reachBytes) = true) {j : Nat} {d : DataW H} (ht : ts[j]? = some t) (hd : ds[j]? = some d) {len : Nat}
    (hl : (d = .nil ∧ len = 0) ∨ ∃ el sp, d = .slice el sp ∧ el.length = len) : len ≤ 35184372088832 := by
  rcases hl with ⟨_, rfl⟩ | ⟨el, sp, rfl, rfl⟩
  · omega
  · have h1 := sized_slice h ht hd hu
    have h2 := reachBytes_lt
    rw [hb] at h1
    have h3 : el.length * 4 ≤ (el.length + sp.length) * k := Nat.mul_le_mul (by omega) hk
    omega

set_option maxRecDepth 100000 in
theorem open_row_i64 {H : Type} {enc : TypeId × Value → H} {W : World} {base : Nat} {v : Value} {d : DataW H} {ps : List MemPlace} (hv : Value.okWide Tryd.prog W .any base 33 v) (h : DataW.Trod enc Tryd.prog W 0 (fun _ => true) true 33 v d ps) :
    ∃ (a : Option Addr) (len cap : Nat) (zs : List Int), v = .slice a len cap ∧ IsRow .i64 W a len cap zs ∧ ((d = .nil ∧ len = 0) ∨ ∃ el sp, d = .slice el sp ∧ el.length = len) :=
  open_row Tryd.underlying33 Tryd.underlying3 (by kernel_rfl) hv h
set_option maxRecDepth 100000 in
theorem row_len_i64 {H : Type} {ts : List TypeId} {ds : List (DataW H)} (h : (DataW.weightsEach Tryd.prog ts ds).all (· ≤ reachBytes) = true) {j : Nat} {d : DataW H} (ht : ts[j]? = some 33) (hd : ds[j]? = some d) {len : Nat}
    (hl : (d = .nil ∧ len = 0) ∨ ∃ el sp, d = .slice el sp ∧ el.length = len) : len ≤ 35184372088832 :=
  row_len Tryd.underlying33 (k := 8) (by kernel_rfl) (by decide) h ht hd hl
end Go.Proofs.YtkjkgpdfhmoenaaDoor.Opens
