/-
  A loop that puts elements behind a list in a cell.
-/
import Derived.Test.YtendkmldecoogaaDoorSeg
import Derived.Test.YtendkmldecoogaaDoorRound
import Derived.OwnWalkIn
namespace Go.Proofs.YtendkmldecoogaaDoor.Collect
open Go Go.RowKit Go.Proofs.YtendkmldecoogaaDoor.Kit Go.Proofs.YtendkmldecoogaaDoor.Round Go.Proofs.YtendkmldecoogaaDoor.Seg

/-- A slice's type, its elements' type, their cells and bytes. -/
structure Elem (P : Program) (t e : TypeId) (z : Value) (sz by' : Nat) : Prop where
  t : P.underlying t = some (.slice e)
  e : (P.info? e).map (fun i => (i.zero, i.size, i.bytes)) = some (some z, sz, by')
  z : z.cells.size = sz
  p : 0 < sz

theorem Elem.parts {P : Program} {t e : TypeId} {z : Value} {sz by' : Nat} (h : Elem P t e z sz by') : ∃ i, P.info? e = some i ∧ i.zero = some z ∧ i.size = sz ∧ i.bytes = by' := by
  have h1 := h.e
  cases hi : P.info? e with
  | none => rw [hi] at h1; cases h1
  | some i =>
    rw [hi] at h1
    simp only [Option.map_some, Option.some.injEq, Prod.mk.injEq] at h1
    exact ⟨i, rfl, h1.1, h1.2.1, h1.2.2⟩

/-- The list in the cell at bl: n elements, whose cells are xs, in a row of its own made since w0; since w0 that cell alone was changed. -/
structure Col (t e : TypeId) (sz n : Nat) (xs : List Value) (bl : Nat) (w0 : World) (v : Value) (W : World) : Prop where
  u : Upd (fun b => b = bl) w0 W
  c : W.heap[bl]? = some (.cells #[v] t (0, 0))
  r : Seg W w0.heap.size e sz v n xs

variable {P : Program} {t e : TypeId} {sz by' n : Nat} {xs : List Value} {bl : Nat} {w0 A B : World} {v z : Value}

theorem Col.keep (h : Col t e sz n xs bl w0 v A) {X : Nat → Prop} (hu : Upd X A B) (h1 : ¬ X bl) (h2 : ∀ b, v.ownBlock = some b → ¬ X b) (h4 : ∀ b, b < w0.heap.size → ¬ X b) : Col t e sz n xs bl w0 v B :=
  ⟨grow h.u hu (fun b hb hx => (h4 b hb hx).elim), Upd.mem hu h.c h1, h.r.upd hu h2⟩
theorem Col.below (h : Col t e sz n xs bl w0 v A) (hb : Below A.heap.size A B) : Col t e sz n xs bl w0 v B := h.keep (X := fun _ => False) (Upd.of_below hb) id (fun _ _ => id) (fun _ _ => id)

/-- One more is put behind. -/
theorem Col.next (E : Elem P t e z sz by') (h : Col t e sz n xs bl w0 v A) {bb : Nat} {news : List Value} (hb : A.heap[bb]? = some (.cells news.toArray e (0, 0))) (hl : news.length = sz) (h1 : ∀ u ∈ news, u.oneCell' = true)
    (h63 : n + 1 ≤ maxLen) (hby : (n + 1) * by' ≤ 140737488355328) (hlb : bl < w0.heap.size) (ty : TypeId) :
    ∃ v' A', (Builtin.append_ #[t, t] ty #[v, .slice (some ⟨bb, 0, none⟩) 1 1]).run P A = .ok v' A' ∧ A'.heap[bl]? = some (.cells #[v] t (0, 0)) ∧ Col t e sz (n + 1) (xs ++ news) bl w0 v' (A'.setCell ⟨bl, 0, none⟩ v') ∧
      Upd (fun b => b = bl ∨ v.ownBlock = some b) A (A'.setCell ⟨bl, 0, none⟩ v') ∧ (∀ b, v'.ownBlock = some b → v.ownBlock = some b ∨ A.heap.size ≤ b) ∧ (∃ a c, v' = .slice (some a) (n + 1) c) ∧ A.heap.size ≤ A'.heap.size := by
  obtain ⟨i, hi, hz0, hz1, hz2⟩ := E.parts
  have hsrc : Src A (.slice (some ⟨bb, 0, none⟩) 1 1) 1 news := by
    refine ⟨some ⟨bb, 0, none⟩, 1, rfl, (fun h => by cases h), fun ad had j u hu => ?_⟩
    cases had
    rw [add_plain, cell_at hb]
    simpa using hu
  obtain ⟨v', A', hr, ha, hnil⟩ := run_append_seg (P := P) A w0.heap.size t ty e i z sz by' E.t hi hz0 hz1 hz2 E.z E.p v n xs h.r (.slice (some ⟨bb, 0, none⟩) 1 1) 1 news (by rw [hl]; omega) hsrc h1 h63 hby h.u.size
  have hown : ∀ b, v.ownBlock = some b → w0.heap.size ≤ b := fun b hb => (h.r.lt b hb).1
  have hown' : ∀ b, v'.ownBlock = some b → v.ownBlock = some b ∨ A.heap.size ≤ b := by
    intro b hb
    rcases ha.blk with h2 | h2
    · exact .inl (by rw [← h2]; exact hb)
    · exact .inr (h2 b hb)
  have hnb : ¬ v.ownBlock = some bl := fun hh => by have := hown _ hh; omega
  have hc' := Upd.mem ha.u h.c hnb
  have u2 : Upd (fun b => b = bl) A' (A'.setCell ⟨bl, 0, none⟩ v') := Upd.setCell (S := fun b => b = bl) (p := ⟨bl, 0, none⟩) (Upd.refl _ _) (fun _ => rfl) _
  have hu : Upd (fun b => b = bl ∨ v.ownBlock = some b) A (A'.setCell ⟨bl, 0, none⟩ v') := (ha.u.mono fun _ _ h => .inr h).trans (u2.mono fun _ _ h => .inl h)
  refine ⟨v', A', hr, hc', ⟨grow h.u hu (fun b hb hx => ?_), ?_, ?_⟩, hu, hown', ?_, ha.u.size⟩
  · rcases hx with hx | hx
    · exact hx
    · have := hown _ hx; omega
  · rw [heap_set hc' 0 v']
    rfl
  · refine ha.seg.upd u2 (fun b hb he => ?_)
    subst he
    rcases hown' _ hb with h3 | h3
    · exact hnb h3
    · have := h.u.size; omega
  · rcases ha.seg.at' with ⟨h3, h4⟩ | ⟨g, o, cap, cur, h3, _⟩
    · omega
    · exact ⟨_, _, h3⟩
/-- An append whose run is known, in a walk. -/
theorem append_run {w w' : World} {ops : Array Oper} {rest : List Oper} {o : Oper} {a : Act} {Q : Exit → Act → World → Prop} {x : Operand} {s : Operand} {v xv v' : Value} (hg : o.guard = none)
    (hop : o.op = Op.call { callee := Callee.builtin Builtin.append, args := #[s, x], argTypes := #[t, t] }) (hs : a.eval s = v) (hx : a.eval x = xv) (hrun : (Builtin.append_ #[t, t] o.type #[v, xv]).run P w = .ok v' w')
    (h : wpList P ops Q rest (a.put o.dst v') w') : wpList P ops Q (o :: rest) a w :=
  wpList_plain hg fun K hK' => by
    unfold Oper.wp execOp
    simp only [hop, resolve, invoke, builtin, Sem.run_bind, Sem.run_pure, Result.andThen_ok, List.map_toArray, List.map_cons, List.map_nil, hs, hx, hrun]
    exact hK' _ _ h
/-- The same behind a fence. -/
theorem append_run_in {F : Fence} {k : Nat} {w w' : World} {ops : Array Oper} {rest : List Oper} {o : Oper} {a : Act} {Q : Exit → Act → World → Prop} {x : Operand} {s : Operand} {v xv v' : Value} (hg : o.guard = none)
    (hop : o.op = Op.call { callee := Callee.builtin Builtin.append, args := #[s, x], argTypes := #[t, t] }) (hs : a.eval s = v) (hx : a.eval x = xv) (hrun : (Builtin.append_ #[t, t] o.type #[v, xv]).run P w = .ok v' w')
    (h : wpListIn F k P ops Q rest (a.put o.dst v') w') : wpListIn F k P ops Q (o :: rest) a w :=
  wpListIn_plain hg fun K hK' => by
    unfold Oper.wpIn
    refine ⟨?_, ?_⟩
    · simp [Oper.about, hop, resolve, Target.leads, Sem.run_pure]
    · rw [Oper.semAt_plain F _ _ (by rw [hop]; intro c hc'; cases hc')]
      simp [execOp, hop, resolve, invoke, builtin, hs, hx, hrun, Result.andThen]
      exact hK' _ _ h
end Go.Proofs.YtendkmldecoogaaDoor.Collect
