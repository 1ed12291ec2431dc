/-
  What a walk is told of a model's data that came in.
-/
import Derived.Test.YtkjkgpdfhmoenaaDoorOpens
import Derived.Test.YtkjkgpdfhmoenaaDoorDt
import Derived.Deep.Fields
import Derived.ChangeSame
import Derived.Lib.SmallJoins
namespace Go.Proofs.YtkjkgpdfhmoenaaDoor.DataOpen
open Go Go.RowKit Go.Deep Go.Joins Go.ChangeShapes Go.WideShapes Go.ChangeAt Go.Proofs.YtkjkgpdfhmoenaaDoor.Kit Go.Proofs.YtkjkgpdfhmoenaaDoor.Opens Go.Proofs.YtkjkgpdfhmoenaaDoor.SpFns Go.Proofs.YtkjkgpdfhmoenaaDoor.Dt

theorem weights_all {H : Type} {P : Program} {e : TypeId} {d : DataW H} {n : Nat} (hn : n ∈ d.weights P e) : ∀ {l : List (DataW H)}, d ∈ l → n ∈ DataW.weightsAll P e l
  | [], h => by cases h
  | x :: r, h => by
    unfold DataW.weightsAll
    rcases List.mem_cons.1 h with rfl | h
    · exact List.mem_append_left _ hn
    · exact List.mem_append_right _ (weights_all hn h)

/-- A slice that came in, out of its reading alone. -/
theorem open_rows2 {H : Type} {enc : TypeId × Value → H} {P : Program} {W : World} {v : Value} {fuel : Nat} {x : DataW H × List MemPlace} {t e : TypeId} {n : Nat} (ht : P.underlying t = some (.slice e)) (hc : P.cellsOf e = n) (hn : 0 < n)
    (h : DataW.trod enc P W 0 (fun _ => true) true fuel t [v] = some x) :
    ∃ (a : Option Addr) (len cap : Nat) (C : Nat → List Value) (E : Nat → DataW H), v = .slice a len cap ∧ len ≤ cap ∧
      (len = 0 ∨ ∃ b off, a = some ⟨b, off, none⟩ ∧ b < W.heap.size ∧ ∀ i, i < len → ∀ j, j < n → W.cell? ⟨b, off + i * n + j, none⟩ = some ((C i).getD j undef)) ∧
      (∀ i, i < len → (C i).length = n ∧ ∃ m pl, DataW.trod enc P W 0 (fun _ => true) true m e (C i) = some (E i, pl)) ∧
      ((∀ z ∈ x.1.weights P t, z ≤ reachBytes) → len * P.bytesOf e ≤ reachBytes ∧ ∀ i, i < len → ∀ z ∈ (E i).weights P e, z ≤ reachBytes) := by
  rcases open_slice ht h with ⟨hcs, hx⟩ | ⟨x', len, cap, m, k, D, Pl, hcs, _, hl, hm, hmm, hx, hall⟩
  · simp only [List.cons.injEq, and_true] at hcs
    exact ⟨none, 0, 0, fun _ => [], fun _ => .nil, hcs, Nat.le_refl _, .inl rfl, fun i hi => by omega, fun _ => ⟨by omega, fun i hi => by omega⟩⟩
  · simp only [List.cons.injEq, and_true] at hcs
    have hlm : len ≤ m := by rw [hmm]; simp; omega
    have each : ∀ i, i < len → ∃ q : List Value, q.length = n ∧ (∀ j, j < n → W.cell? ((x'.add (i * n)).add j) = some (q.getD j undef)) ∧ ∃ m pl, DataW.trod enc P W 0 (fun _ => true) true m e q = some (D i, pl) := by
      intro i hi
      obtain ⟨cs', h1, h2⟩ := hall i (by omega)
      rw [hc] at h1
      obtain ⟨_, hlen, hcell⟩ := World.cells?_some h1
      refine ⟨cs', hlen, fun j hj => ?_, _, _, h2⟩
      rw [hcell j (by omega)]
      simp [List.getD, hlen, hj]
    obtain ⟨q, hq⟩ := choose_lt each
    refine ⟨some x', len, cap, q, D, hcs, hl, ?_, fun i hi => ⟨(hq i hi).1, (hq i hi).2.2⟩, fun hw => ⟨?_, fun i hi z hz => ?_⟩⟩
    · rcases Nat.eq_zero_or_pos len with h0 | h0
      · exact .inl h0
      · obtain ⟨b, off, spot⟩ := x'
        have g0 := (hq 0 h0).2.1 0 hn
        have hspot : spot = none := by simpa [Addr.add] using World.cell?_spot g0
        subst hspot
        refine .inr ⟨b, off, rfl, ?_, fun i hi j hj => ?_⟩
        · have := lt_of_cell g0
          rw [Kit.add_plain, Kit.add_plain] at this
          exact this
        · have := (hq i hi).2.1 j hj
          rwa [Kit.add_plain, Kit.add_plain] at this
    · rw [hx] at hw
      have := hw (((List.range len).map D).length + ((List.range (m - len)).map fun j => D (len + j)).length |>.mul (P.bytesOf e)) (by simp [DataW.weights, ht])
      refine Nat.le_trans (Nat.mul_le_mul_right _ ?_) this
      simp
    · rw [hx] at hw
      refine hw z ?_
      simp only [DataW.weights, ht]
      refine List.mem_cons_of_mem _ (List.mem_append_left _ (weights_all hz ?_))
      exact List.mem_map.2 ⟨i, List.mem_range.2 hi, rfl⟩

theorem weights_each {H : Type} {P : Program} {w : Nat} (ts : List TypeId) (ds : List (DataW H)) {j : Nat} {t : TypeId} {d : DataW H} (ht : ts[j]? = some t) (hd : ds[j]? = some d) (h : ∀ n ∈ DataW.weightsEach P ts ds, n ≤ w) : ∀ n ∈ d.weights P t, n ≤ w :=
  fun n hn => h n (DataW.weights_mem_each ht hd n hn)

section
variable {H : Type} {enc : TypeId × Value → H} {P : Program} {w : World} {base : Nat} {spare : Nat → Bool} {held : Bool}
theorem open_agg5 {r : Reach} {b0 : Nat} {t : TypeId} {f0 f1 f2 f3 f4 : Field} {v : Value} {d : DataW H} {p : List MemPlace} (hs : P.underlying t = some (.struct #[f0, f1, f2, f3, f4])) (hone : oneCellFields P #[f0, f1, f2, f3, f4] = true) (hC : P.cellsOf t = 5)
    (hv : Value.okWide P w r b0 t v) (h : DataW.Trod enc P w base spare held t v d p) :
    ∃ (v0 v1 v2 v3 v4 : Value) (y0 y1 y2 y3 y4 : DataW H × List MemPlace) (n : Nat), v = .agg #[v0, v1, v2, v3, v4] ∧ d = .agg [y0.1, y1.1, y2.1, y3.1, y4.1] ∧ p = y0.2 ++ (y1.2 ++ (y2.2 ++ (y3.2 ++ y4.2))) ∧
      DataW.trod enc P w base spare held n f0.type [v0] = some y0 ∧ DataW.trod enc P w base spare held n f1.type [v1] = some y1 ∧ DataW.trod enc P w base spare held n f2.type [v2] = some y2 ∧ DataW.trod enc P w base spare held n f3.type [v3] = some y3 ∧ DataW.trod enc P w base spare held n f4.type [v4] = some y4 := by
  obtain ⟨cs, rfl, hsz⟩ := okWide_struct hs hv
  obtain ⟨l⟩ := cs
  match l, hsz.trans hC with
  | [c0, c1, c2, c3, c4], _ =>
    obtain ⟨fuel, hf⟩ := h
    obtain ⟨xs, n, _, hx, _, hlen, hg⟩ := DataW.trod_struct hs hf
    obtain ⟨o0, k0⟩ := hone_of hone 0 f0 rfl
    obtain ⟨o1, k1⟩ := hone_of hone 1 f1 rfl
    obtain ⟨o2, k2⟩ := hone_of hone 2 f2 rfl
    obtain ⟨o3, k3⟩ := hone_of hone 3 f3 rfl
    obtain ⟨o4, k4⟩ := hone_of hone 4 f4 rfl
    match xs, hlen with
    | [y0, y1, y2, y3, y4], _ =>
      simp only [Prod.mk.injEq] at hx
      exact ⟨c0, c1, c2, c3, c4, y0, y1, y2, y3, y4, n, rfl, by simpa using hx.1, by simpa using hx.2, by simpa [Value.cells, o0, k0] using hg 0 f0 rfl, by simpa [Value.cells, o1, k1] using hg 1 f1 rfl, by simpa [Value.cells, o2, k2] using hg 2 f2 rfl, by simpa [Value.cells, o3, k3] using hg 3 f3 rfl, by simpa [Value.cells, o4, k4] using hg 4 f4 rfl⟩
end

theorem reach_le {n : Nat} (h : n ≤ reachBytes) : n ≤ 140737488355328 := by
  have := reachBytes_lt
  omega

set_option maxRecDepth 100000 in
theorem open_words {H : Type} {enc : TypeId × Value → H} {W : World} {v : Value} {fuel : Nat} {x : DataW H × List MemPlace} (h : DataW.trod enc Tryd.prog W 0 (fun _ => true) true fuel 22 [v] = some x) (hw : ∀ z ∈ x.1.weights Tryd.prog 22, z ≤ reachBytes) :
    ∃ (a : Option Addr) (len cap : Nat) (T : Nat → ByteArray), v = .slice a len cap ∧ len ≤ cap ∧ WRow W a len T ∧ len ≤ 8796093022208 ∧ ∀ i, i < len → (T i).size ≤ 140737488355328 := by
  obtain ⟨a, len, cap, C, E, hv, hl, hm, hC, hz⟩ := open_rows2 (n := 1) Tryd.underlying22 (by kernel_rfl) (by decide) h
  obtain ⟨hz1, hz2⟩ := hz hw
  rw [show Tryd.prog.bytesOf 9 = 16 by kernel_rfl] at hz1
  have each : ∀ i, i < len → ∃ s : ByteArray, C i = [.string s] ∧ s.size ≤ 140737488355328 := by
    intro i hi
    obtain ⟨_, m, pl, ht⟩ := hC i hi
    obtain ⟨s, h1, h2, _⟩ := DataW.trod_string Tryd.underlying9 ht
    simp only [Prod.mk.injEq] at h2
    refine ⟨s, h1, reach_le ?_⟩
    have := hz2 i hi s.data.toList.length (by rw [h2.1]; simp [DataW.weights])
    simpa using this
  obtain ⟨q, hq⟩ := choose_lt each
  refine ⟨a, len, cap, q, hv, hl, ?_, by have := reach_le hz1; omega, fun i hi => (hq i hi).2⟩
  rcases hm with hm | ⟨b, off, rfl, hb, hc⟩
  · exact .inl hm
  · refine .inr ⟨b, off, rfl, hb, fun i hi => ?_⟩
    have := hc i hi 0 (by decide)
    rw [(hq i hi).1, Nat.mul_one] at this
    exact this

set_option maxRecDepth 100000 in
theorem open_merges {H : Type} {enc : TypeId × Value → H} {W : World} {v : Value} {fuel : Nat} {x : DataW H × List MemPlace} (h : DataW.trod enc Tryd.prog W 0 (fun _ => true) true fuel 23 [v] = some x) (hw : ∀ z ∈ x.1.weights Tryd.prog 23, z ≤ reachBytes) :
    ∃ (a : Option Addr) (len cap : Nat) (A B I : Nat → Int), v = .slice a len cap ∧ len ≤ cap ∧ MRow W a len A B I ∧ len ≤ 8796093022208 ∧
      ∀ i, i < len → (-9223372036854775808 ≤ A i ∧ A i ≤ 9223372036854775807) ∧ (-9223372036854775808 ≤ B i ∧ B i ≤ 9223372036854775807) ∧ (-9223372036854775808 ≤ I i ∧ I i ≤ 9223372036854775807) := by
  obtain ⟨a, len, cap, C, E, hv, hl, hm, hC, hz⟩ := open_rows2 (n := 3) Tryd.underlying23 (by kernel_rfl) (by decide) h
  obtain ⟨hz1, hz2⟩ := hz hw
  rw [show Tryd.prog.bytesOf 127 = 24 by kernel_rfl] at hz1
  have each : ∀ i, i < len → ∃ q : Int × Int × Int, C i = [.int .i64 q.1, .int .i64 q.2.1, .int .i64 q.2.2] ∧ (Lit.int .i64 q.1).wf = true ∧ (Lit.int .i64 q.2.1).wf = true ∧ (Lit.int .i64 q.2.2).wf = true := by
    intro i hi
    obtain ⟨hlen, m, pl, ht⟩ := hC i hi
    match h4 : C i, hlen with
    | [c0, c1, c2], _ =>
      rw [h4] at ht
      obtain ⟨m0, y0, t0⟩ := open_field Tryd.underlying127 ht (i := 0) rfl
      obtain ⟨m1, y1, t1⟩ := open_field Tryd.underlying127 ht (i := 1) rfl
      obtain ⟨m2, y2, t2⟩ := open_field Tryd.underlying127 ht (i := 2) rfl
      have t0 : DataW.trod enc Tryd.prog W 0 (fun _ => true) true m0 3 (([c0, c1, c2].drop 0).take (Tryd.prog.cellsOf 3)) = some y0 := t0
      have t1 : DataW.trod enc Tryd.prog W 0 (fun _ => true) true m1 3 (([c0, c1, c2].drop 1).take (Tryd.prog.cellsOf 3)) = some y1 := t1
      have t2 : DataW.trod enc Tryd.prog W 0 (fun _ => true) true m2 3 (([c0, c1, c2].drop 2).take (Tryd.prog.cellsOf 3)) = some y2 := t2
      rw [show Tryd.prog.cellsOf 3 = 1 by kernel_rfl] at t0 t1 t2
      simp only [List.drop_zero, List.drop_succ_cons, List.take_succ_cons, List.take_zero] at t0 t1 t2
      obtain ⟨z0, e0, _, w0⟩ := DataW.trod_int Tryd.underlying3 t0
      obtain ⟨z1, e1, _, w1⟩ := DataW.trod_int Tryd.underlying3 t1
      obtain ⟨z2, e2, _, w2⟩ := DataW.trod_int Tryd.underlying3 t2
      simp only [List.cons.injEq, and_true] at e0 e1 e2
      exact ⟨(z0, z1, z2), by rw [e0, e1, e2], w0, w1, w2⟩
  obtain ⟨q, hq⟩ := choose_lt each
  refine ⟨a, len, cap, fun i => (q i).1, fun i => (q i).2.1, fun i => (q i).2.2, hv, hl, ?_, by have := reach_le hz1; omega, fun i hi => ⟨bounds_i64 (hq i hi).2.1, bounds_i64 (hq i hi).2.2.1, bounds_i64 (hq i hi).2.2.2⟩⟩
  rcases hm with hm | ⟨b, off, rfl, hb, hc⟩
  · exact .inl hm
  · refine .inr ⟨b, off, rfl, hb, fun i hi => ?_⟩
    have h0 := hc i hi 0 (by decide)
    have h1 := hc i hi 1 (by decide)
    have h2 := hc i hi 2 (by decide)
    rw [(hq i hi).1] at h0 h1 h2
    exact ⟨h0, h1, h2⟩

set_option maxRecDepth 100000 in
theorem open_spans2 {H : Type} {enc : TypeId × Value → H} {W : World} {v : Value} {fuel : Nat} {x : DataW H × List MemPlace} (h : DataW.trod enc Tryd.prog W 0 (fun _ => true) true fuel 24 [v] = some x) (hw : ∀ z ∈ x.1.weights Tryd.prog 24, z ≤ reachBytes) :
    ∃ (a : Option Addr) (len cap : Nat) (L Hh : Nat → Int), v = .slice a len cap ∧ len ≤ cap ∧ Row W a len L Hh ∧ len ≤ 17592186044416 := by
  obtain ⟨a, len, cap, C, E, hv, hl, hm, hC, hz⟩ := open_rows2 (n := 2) Tryd.underlying24 (by kernel_rfl) (by decide) h
  obtain ⟨hz1, hz2⟩ := hz hw
  rw [show Tryd.prog.bytesOf 129 = 8 by kernel_rfl] at hz1
  have each : ∀ i, i < len → ∃ q : Int × Int, C i = [.int .i32 q.1, .int .i32 q.2] := by
    intro i hi
    obtain ⟨hlen, m, pl, ht⟩ := hC i hi
    match h4 : C i, hlen with
    | [c0, c1], _ =>
      rw [h4] at ht
      obtain ⟨m0, y0, t0⟩ := open_field Tryd.underlying129 ht (i := 0) rfl
      obtain ⟨m1, y1, t1⟩ := open_field Tryd.underlying129 ht (i := 1) rfl
      have t0 : DataW.trod enc Tryd.prog W 0 (fun _ => true) true m0 21 (([c0, c1].drop 0).take (Tryd.prog.cellsOf 21)) = some y0 := t0
      have t1 : DataW.trod enc Tryd.prog W 0 (fun _ => true) true m1 21 (([c0, c1].drop 1).take (Tryd.prog.cellsOf 21)) = some y1 := t1
      rw [show Tryd.prog.cellsOf 21 = 1 by kernel_rfl] at t0 t1
      simp only [List.drop_zero, List.drop_succ_cons, List.take_succ_cons, List.take_zero] at t0 t1
      obtain ⟨z0, e0, _, w0⟩ := DataW.trod_int Tryd.underlying21 t0
      obtain ⟨z1, e1, _, w1⟩ := DataW.trod_int Tryd.underlying21 t1
      simp only [List.cons.injEq, and_true] at e0 e1
      exact ⟨(z0, z1), by rw [e0, e1]⟩
  obtain ⟨q, hq⟩ := choose_lt each
  refine ⟨a, len, cap, fun i => (q i).1, fun i => (q i).2, hv, hl, ?_, by have := reach_le hz1; omega⟩
  rcases hm with hm | ⟨b, off, rfl, hb, hc⟩
  · exact .inl hm
  · refine .inr ⟨b, off, rfl, hb, fun i hi => ?_⟩
    have h0 := hc i hi 0 (by decide)
    have h1 := hc i hi 1 (by decide)
    rw [hq i hi] at h0 h1
    exact ⟨h0, h1⟩

set_option maxRecDepth 100000 in
theorem open_data {H : Type} {enc : TypeId × Value → H} {W : World} {base : Nat} {v : Value} {d : DataW H} {ps : List MemPlace} (hv : Value.okWide Tryd.prog W .any base 26 v) (h : DataW.Trod enc Tryd.prog W 0 (fun _ => true) true 26 v d ps)
    {ts : List TypeId} {ds : List (DataW H)} (hz : (DataW.weightsEach Tryd.prog ts ds).all (· ≤ reachBytes) = true) {j : Nat} (ht : ts[j]? = some 26) (hd : ds[j]? = some d) :
    ∃ (D : Dt) (p : Pl), v = .agg #[.slice p.a0 D.nw p.c0, .slice p.a1 D.nm p.c1, .slice p.a2 D.n0 p.c2, .slice p.a3 D.n1 p.c3, .slice p.a4 D.n2 p.c4] ∧ At W D p := by
  obtain ⟨v0, v1, v2, v3, v4, y0, y1, y2, y3, y4, n, rfl, rfl, _, h0, h1, h2, h3, h4⟩ := open_agg5 Tryd.underlying26 (by kernel_rfl) (by kernel_rfl) hv h
  have hall : ∀ n ∈ DataW.weights Tryd.prog 26 (.agg [y0.1, y1.1, y2.1, y3.1, y4.1]), n ≤ reachBytes := fun n hn => by
    have := List.all_eq_true.1 hz n (DataW.weights_mem_each ht hd n hn)
    simpa using this
  simp only [DataW.weights, Tryd.underlying26] at hall
  obtain ⟨a0, n0, c0, T, rfl, l0, r0, s0, z0⟩ := open_words h0 (weights_each _ _ (j := 0) rfl rfl hall)
  obtain ⟨a1, n1, c1, A, B, I, rfl, l1, r1, s1, z1⟩ := open_merges h1 (weights_each _ _ (j := 1) rfl rfl hall)
  obtain ⟨a2, n2, c2, L0, H0, rfl, l2, r2, s2⟩ := open_spans2 h2 (weights_each _ _ (j := 2) rfl rfl hall)
  obtain ⟨a3, n3, c3, L1, H1, rfl, l3, r3, s3⟩ := open_spans2 h3 (weights_each _ _ (j := 3) rfl rfl hall)
  obtain ⟨a4, n4, c4, L2, H2, rfl, l4, r4, s4⟩ := open_spans2 h4 (weights_each _ _ (j := 4) rfl rfl hall)
  exact ⟨⟨n0, T, n1, A, B, I, n2, L0, H0, n3, L1, H1, n4, L2, H2⟩, ⟨a0, c0, a1, c1, a2, c2, a3, c3, a4, c4⟩, rfl, r0, r1, r2, r3, r4, by show n0 ≤ _; omega, by show n1 ≤ _; omega, s2, s3, s4, l0, l1, l2, l3, l4, z1, z0⟩
end Go.Proofs.YtkjkgpdfhmoenaaDoor.DataOpen
