/-
  What a walk is told of the calls that a law plays.
-/
import Derived.Test.YtgddlcbaieclcaaOpens
namespace Go.Proofs.Ytgddlcbaieclcaa.LruOpen
open Go Go.RowKit Go.Deep Go.ChangeShapes Go.WideShapes Go.ChangeAt Go.Proofs.Ytgddlcbaieclcaa.Kit Go.Proofs.Ytgddlcbaieclcaa.Opens

/-- One call. -/
structure Play where
  put : Bool
  a : Int
  b : Int
  v : Int

instance : Inhabited Play := ⟨⟨false, 0, 0, 0⟩⟩

/-- A slice of calls as it lies in memory. -/
def Row (w : World) (x : Option Addr) (len : Nat) (f : Nat → Play) : Prop :=
  len = 0 ∨ ∃ b off, x = some ⟨b, off, none⟩ ∧ b < w.heap.size ∧ ∀ i, i < len →
    w.cell? ⟨b, off + i * 4, none⟩ = some (.bool (f i).put) ∧ w.cell? ⟨b, off + i * 4 + 1, none⟩ = some (.int .i64 (f i).a) ∧ w.cell? ⟨b, off + i * 4 + 2, none⟩ = some (.int .i64 (f i).b) ∧ w.cell? ⟨b, off + i * 4 + 3, none⟩ = some (.int .i64 (f i).v)

theorem Row.at {w : World} {x : Option Addr} {len : Nat} {f : Nat → Play} (h : Row w x len f) {k : Nat} (hk : k < len) : ∃ b off, x = some ⟨b, off, none⟩ ∧ b < w.heap.size ∧ ∀ i, i < len →
    w.cell? ⟨b, off + i * 4, none⟩ = some (.bool (f i).put) ∧ w.cell? ⟨b, off + i * 4 + 1, none⟩ = some (.int .i64 (f i).a) ∧ w.cell? ⟨b, off + i * 4 + 2, none⟩ = some (.int .i64 (f i).b) ∧ w.cell? ⟨b, off + i * 4 + 3, none⟩ = some (.int .i64 (f i).v) := by
  rcases h with rfl | h
  · omega
  · exact h
theorem Row.below {w w' : World} {x : Option Addr} {len : Nat} {f : Nat → Play} (h : Row w x len f) (hb : Below w.heap.size w w') : Row w' x len f := by
  rcases h with h | ⟨b, off, rfl, hl, hc⟩
  · exact .inl h
  · have := hb.size
    exact .inr ⟨b, off, rfl, by omega, fun i hi => by simp only [(bcell hb).1 _ _ hl]; exact hc i hi⟩

set_option maxRecDepth 100000 in
theorem open_asks {H : Type} {enc : TypeId × Value → H} {W : World} {base : Nat} {v : Value} {d : DataW H} {ps : List MemPlace} (hv : Value.okWide Try.prog W .any base 68 v) (h : DataW.Trod enc Try.prog W 0 (fun _ => true) true 68 v d ps) :
    ∃ (a : Option Addr) (len cap : Nat) (f : Nat → Play), v = .slice a len cap ∧ Row W a len f ∧ ((d = .nil ∧ len = 0) ∨ ∃ el sp, d = .slice el sp ∧ el.length = len) := by
  obtain ⟨a, len, cap, C, rfl, hm, hC, hd⟩ := open_rows (n := 4) Try.underlying68 (by kernel_rfl) (by decide) hv h
  have each : ∀ i, i < len → ∃ q : Play, C i = [.bool q.put, .int .i64 q.a, .int .i64 q.b, .int .i64 q.v] := by
    intro i hi
    obtain ⟨hl, m, y, ht⟩ := hC i hi
    match h4 : C i, hl with
    | [c0, c1, c2, c3], _ =>
      rw [h4] at ht
      obtain ⟨m0, y0, t0⟩ := open_field Try.underlying76 ht (i := 0) rfl
      obtain ⟨m1, y1, t1⟩ := open_field Try.underlying76 ht (i := 1) rfl
      obtain ⟨m2, y2, t2⟩ := open_field Try.underlying76 ht (i := 2) rfl
      have t0 : DataW.trod enc Try.prog W 0 (fun _ => true) true m0 4 (([c0, c1, c2, c3].drop 0).take (Try.prog.cellsOf 4)) = some y0 := t0
      have t1 : DataW.trod enc Try.prog W 0 (fun _ => true) true m1 73 (([c0, c1, c2, c3].drop 1).take (Try.prog.cellsOf 73)) = some y1 := t1
      have t2 : DataW.trod enc Try.prog W 0 (fun _ => true) true m2 3 (([c0, c1, c2, c3].drop 3).take (Try.prog.cellsOf 3)) = some y2 := t2
      rw [show Try.prog.cellsOf 4 = 1 by kernel_rfl] at t0
      rw [show Try.prog.cellsOf 73 = 2 by kernel_rfl] at t1
      rw [show Try.prog.cellsOf 3 = 1 by kernel_rfl] at t2
      simp only [List.drop_zero, List.drop_succ_cons, List.take_succ_cons, List.take_zero] at t0 t1 t2
      obtain ⟨p, e0, _⟩ := DataW.trod_bool Try.underlying4 t0
      obtain ⟨z, e2, _, _⟩ := DataW.trod_int Try.underlying3 t2
      obtain ⟨m3, y3, t3⟩ := open_field Try.underlying73 t1 (i := 0) rfl
      obtain ⟨m4, y4, t4⟩ := open_field Try.underlying73 t1 (i := 1) rfl
      have t3 : DataW.trod enc Try.prog W 0 (fun _ => true) true m3 3 (([c1, c2].drop 0).take (Try.prog.cellsOf 3)) = some y3 := t3
      have t4 : DataW.trod enc Try.prog W 0 (fun _ => true) true m4 3 (([c1, c2].drop 1).take (Try.prog.cellsOf 3)) = some y4 := t4
      rw [show Try.prog.cellsOf 3 = 1 by kernel_rfl] at t3 t4
      simp only [List.drop_zero, List.drop_succ_cons, List.take_succ_cons, List.take_zero] at t3 t4
      obtain ⟨x, e3, _, _⟩ := DataW.trod_int Try.underlying3 t3
      obtain ⟨y, e4, _, _⟩ := DataW.trod_int Try.underlying3 t4
      simp only [List.cons.injEq, and_true] at e0 e2 e3 e4
      exact ⟨⟨p, x, y, z⟩, by rw [e0, e2, e3, e4]⟩
  obtain ⟨q, hq⟩ := choose_lt each
  refine ⟨a, len, cap, q, rfl, ?_, hd⟩
  rcases hm with hm | ⟨b, off, rfl, hb, hc⟩
  · exact .inl hm
  · refine .inr ⟨b, off, rfl, hb, fun i hi => ?_⟩
    have h0 := hc i hi 0 (by decide)
    have h1 := hc i hi 1 (by decide)
    have h2 := hc i hi 2 (by decide)
    have h3 := hc i hi 3 (by decide)
    rw [hq i hi] at h0 h1 h2 h3
    exact ⟨h0, h1, h2, h3⟩

set_option maxRecDepth 100000 in
theorem asks_len {H : Type} {ts : List TypeId} {ds : List (DataW H)} (h : (DataW.weightsEach Try.prog ts ds).all (· ≤ reachBytes) = true) {j : Nat} {d : DataW H} (ht : ts[j]? = some 68) (hd : ds[j]? = some d) {len : Nat}
    (hl : (d = .nil ∧ len = 0) ∨ ∃ el sp, d = .slice el sp ∧ el.length = len) : len ≤ 35184372088832 :=
  row_len Try.underlying68 (k := 32) (by kernel_rfl) (by decide) h ht hd hl
end Go.Proofs.Ytgddlcbaieclcaa.LruOpen
