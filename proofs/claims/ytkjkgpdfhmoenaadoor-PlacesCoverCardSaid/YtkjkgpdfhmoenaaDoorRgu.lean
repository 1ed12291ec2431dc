/-
  A region that draws its order: reads first, in an order that is named, under a condition A on worlds that holds until the first of the last operations (those from number k on) comes up; these wait for all reads. What is listed is a number's bits. A region that draws its order, by a condition on worlds that every operation keeps: reads in a named order first, then what writes, one by one. What is listed is a number's bits. Drawn regions with a named order of reads: an operation that reads no memory may be taken first, whenever it comes up.
-/
import Derived.Test.YtkjkgpdfhmoenaaDoorKit
namespace Go.Proofs.YtkjkgpdfhmoenaaDoor.Rgu
open Go Go.RowKit Go.Proofs.YtkjkgpdfhmoenaaDoor.Kit

def bits (N m : Nat) : Array Bool := ((List.range N).map fun i => m.testBit i).toArray

section
variable {P : Program} {ops : Array Oper} {R : Act → World → Prop} {Q : Exit → Act → World → Prop} {A : World → Prop} {k : Nat}

def low (k : Nat) (L : Array Bool) : Prop := ∀ j, k ≤ j → L.getD j false = false
def closed (ops : Array Oper) (L : Array Bool) : Prop := ∀ q oq, ops[q]? = some oq → L.getD q true = true → ∀ e ∈ oq.after, Region.binds .any e = true → L.getD e.on false = true
def dep (ops : Array Oper) : Nat → Nat → Nat → Bool
  | 0, _, _ => false
  | f + 1, i, q => match ops[q]? with
    | none => false
    | some o => o.after.any fun e => Region.binds .any e && (e.on == i || dep ops f i e.on)

theorem getD_up {L : Array Bool} {i : Nat} (h : L.getD i false = true) : L.getD i true = true := by
  rcases Nat.lt_or_ge i L.size with h' | h'
  · simpa [h'] using h
  · simp [Array.getElem?_eq_none h']
theorem closed_set {L : Array Bool} {j : Nat} (hc : closed ops L) (hj : j ∈ Region.ready .any ops L) : closed ops (L.setIfInBounds j true) := by
  intro q oq hq hl e he hb
  by_cases hjq : j = q
  · subst hjq
    obtain ⟨_, o, ho, hall⟩ := mem_ready.1 hj
    rw [hq] at ho
    cases ho
    exact getD_set_true (hall e he hb)
  · rw [getD_set_ne true hjq] at hl
    exact getD_set_true (hc q oq hq hl e he hb)
theorem dep_listed {L : Array Bool} (hc : closed ops L) : ∀ (f i q : Nat), dep ops f i q = true → L.getD q true = true → L.getD i false = true
  | 0, _, _, h, _ => by simp [dep] at h
  | f + 1, i, q, h, hq => by
    unfold dep at h
    cases ho : ops[q]? with
    | none => rw [ho] at h; simp at h
    | some o =>
      rw [ho] at h
      simp only [Array.any_eq_true', Bool.and_eq_true, Bool.or_eq_true, beq_iff_eq] at h
      obtain ⟨e, he, hb, h1⟩ := h
      have h2 := hc q o ho hq e he hb
      rcases h1 with rfl | h1
      · exact h2
      · exact dep_listed hc f i e.on h1 (getD_up h2)
theorem dep_ready {L : Array Bool} (hc : closed ops L) {f i q : Nat} (h : dep ops f i q = true) (hq : q ∈ Region.ready .any ops L) : L.getD i false = true := by
  cases f with
  | zero => simp [dep] at h
  | succ f =>
    obtain ⟨_, o, ho, hall⟩ := mem_ready.1 hq
    unfold dep at h
    rw [ho] at h
    simp only [Array.any_eq_true', Bool.and_eq_true, Bool.or_eq_true, beq_iff_eq] at h
    obtain ⟨e, he, hb, h1⟩ := h
    have h2 := hall e he hb
    rcases h1 with rfl | h1
    · exact h2
    · exact dep_listed hc f i e.on h1 (getD_up h2)

/-- Whatever order is picked from here on; A holds until an operation from k on comes up. -/
def wpK (P : Program) (ops : Array Oper) (Q : Exit → Act → World → Prop) (A : World → Prop) (k : Nat) : Nat → Array Bool → Act → World → Prop
  | 0, listed, a, w => Region.ready .any ops listed = [] ∧ Q .normal a w
  | fuel + 1, listed, a, w =>
    (Region.ready .any ops listed = [] → Q .normal a w) ∧
    ∀ i ∈ Region.ready .any ops listed, wpOp P ops Q i (fun a' w' => (low k (listed.setIfInBounds i true) → A w') ∧ wpK P ops Q A k fuel (listed.setIfInBounds i true) a' w') a w
theorem any_of_K : ∀ (fuel : Nat) (listed : Array Bool) (a : Act) (w : World), wpK P ops Q A k fuel listed a w → wpAny P .any ops Q fuel listed a w
  | 0, _, _, _, h => h
  | fuel + 1, _, _, _, h => ⟨h.1, fun i hi => wpOp_mono (fun a' w' h' => any_of_K fuel _ a' w' h'.2) (h.2 i hi)⟩

theorem low_set {L : Array Bool} {i : Nat} (h : low k L) (hi : i < k) : low k (L.setIfInBounds i true) := fun j hj => by
  rw [getD_set_ne false (by omega)]
  exact h j hj

theorem K_first {i : Nat} {oi : Oper} {v : Value} (hi : ops[i]? = some oi) (hik : i < k) (hsel : ∀ (j : Nat) (o : Oper) cs b, ops[j]? = some o → o.op ≠ .select cs b)
    (hQ : ∀ c a w, Q (.panic c) (a.put oi.dst v) w → Q (.panic c) a w) (hdep : ∀ j oj, ops[j]? = some oj → k ≤ j → ∃ f, dep ops f i j = true) :
    ∀ (fuel : Nat) (listed : Array Bool) (a : Act) (w : World),
      (∀ j oj, ops[j]? = some oj → j ≠ i → listed.getD j true = false → (∀ e ∈ oj.after, Region.binds .any e = true → e.on ≠ i) → oi.apart ops oj = true) →
      i ∈ Region.ready .any ops listed → YieldsIf P ops A oi v a → A w → closed ops listed → low k listed →
      wpK P ops Q A k fuel (listed.setIfInBounds i true) (a.put oi.dst v) w → wpK P ops Q A k (fuel + 1) listed a w := by
  intro fuel
  induction fuel with
  | zero =>
    intro listed a w _ hr hy hS hc hlo H
    refine ⟨fun h => (by rw [h] at hr; cases hr), fun j hj => ?_⟩
    by_cases hji : j = i
    · subst hji; exact hy.wpOp hi hS ⟨fun _ => hS, H⟩
    · have := ready_mono hj hji
      rw [H.1] at this
      cases this
  | succ fuel ih =>
    intro listed a w hfree hr hy hS hc hlo H
    refine ⟨fun h => (by rw [h] at hr; cases hr), fun j hj => ?_⟩
    by_cases hji : j = i
    · subst hji; exact hy.wpOp hi hS ⟨fun _ => hS, H⟩
    · have h1 := H.2 j (ready_mono hj hji)
      obtain ⟨hjun, oj, hoj, hall⟩ := mem_ready.1 hj
      have hnl : ¬ listed.getD i false = true := fun h => by
        have h0 := (mem_ready.1 hr).1
        rcases Nat.lt_or_ge i listed.size with h' | h'
        · simp [h'] at h h0; rw [h0] at h; cases h
        · simp [Array.getElem?_eq_none h'] at h
      have hjk : j < k := by
        rcases Nat.lt_or_ge j k with h | h
        · exact h
        · obtain ⟨f, hf⟩ := hdep j oj hoj h
          exact absurd (dep_ready hc hf hj) hnl
      have hnot : ∀ e ∈ oj.after, Region.binds .any e = true → e.on ≠ i := fun e he hb heq => by
        have h1 := hall e he hb
        rw [heq] at h1
        exact hnl h1
      have h2 := wpOp_putIf hoj (hfree j oj hoj hji hjun hnot) (fun cs b => hsel i oi cs b hi) (fun cs b => hsel j oj cs b hoj) hQ hy h1
      have hfree' : ∀ q ok, ops[q]? = some ok → q ≠ i → (listed.setIfInBounds j true).getD q true = false →
          (∀ e ∈ ok.after, Region.binds .any e = true → e.on ≠ i) → oi.apart ops ok = true := fun q ok hk hki hun hno => by
        refine hfree q ok hk hki ?_ hno
        by_cases hjk : j = q
        · subst hjk; exact hjun
        · rw [getD_set_ne true hjk] at hun; exact hun
      have hlo2 : low k ((listed.setIfInBounds i true).setIfInBounds j true) := low_set (low_set hlo hik) hjk
      refine wpOp_mono (fun a' w' h3 => ⟨fun _ => h3.2.1 hlo2, ih (listed.setIfInBounds j true) a' w' hfree' (ready_mono hr (Ne.symm hji)) h3.1 (h3.2.1 hlo2) (closed_set hc hj) (low_set hlo hjk) ?_⟩) h2
      rw [Array.setIfInBounds_comm _ _ hji]
      exact h3.2.2

/-! ### The moves -/
def lowB (k N m : Nat) : Bool := (List.range N).all fun j => decide (j < k) || !(bits N m).getD j false
def closedB (ops : Array Oper) (N m : Nat) : Bool := decide (ops.size = N) && (List.range N).all fun q => !(bits N m).getD q true || ((ops[q]?).map (·.after.all fun e => !Region.binds .any e || (bits N m).getD e.on false)).getD true
theorem size_bits (N m : Nat) : (bits N m).size = N := by simp [bits]
theorem low_of {N m : Nat} (h : lowB k N m = true) : low k (bits N m) := by
  intro j hj
  rcases Nat.lt_or_ge j N with h1 | h1
  · have h2 := List.all_eq_true.1 h j (List.mem_range.2 h1)
    simp only [Bool.or_eq_true, decide_eq_true_eq, Bool.not_eq_true'] at h2
    rcases h2 with h2 | h2
    · omega
    · exact h2
  · rw [Array.getD_eq_getD_getElem?, Array.getElem?_eq_none (by rw [size_bits]; exact h1)]; rfl
theorem closed_of {N m : Nat} (h : closedB ops N m = true) : closed ops (bits N m) := by
  intro q oq hq hl e he hb
  unfold closedB at h
  simp only [Bool.and_eq_true, decide_eq_true_eq] at h
  have h1 : q < N := by rw [← h.1]; exact (Array.getElem?_eq_some_iff.1 hq).1
  have h2 := List.all_eq_true.1 h.2 q (List.mem_range.2 h1)
  simp only [hq, Option.map_some, Option.getD_some, Bool.or_eq_true, Bool.not_eq_true', Array.all_eq_true'] at h2
  rcases h2 with h2 | h2
  · rw [hl] at h2; cases h2
  · rcases h2 e he with h3 | h3
    · rw [hb] at h3; cases h3
    · exact h3

/-- What is left of it: g operations, reads in the order ord first; none from k on has come up. -/
def RGO (P : Program) (ops : Array Oper) (R : Act → World → Prop) (A : World → Prop) (k N m : Nat) (_ord : List (Nat × Nat)) (g : Nat) (a : Act) (w : World) : Prop :=
  A w → wpK P ops (OnlyNormal R) A k g (bits N m) a w
/-- One from k on has come up. -/
def RGH (P : Program) (ops : Array Oper) (R : Act → World → Prop) (A : World → Prop) (k N m : Nat) (g : Nat) (a : Act) (w : World) : Prop :=
  wpK P ops (OnlyNormal R) A k g (bits N m) a w

theorem RGO_begin (A : World → Prop) (k N : Nat) (ord : List (Nat × Nat)) {Q : Exit → Act → World → Prop} {id : Nat} {a : Act} {w : World} {l : List Oper} (hn : l.length = N) (hl : Array.replicate N false = bits N 0) (hm : P.follows .mixedOrders = true) (hS : A w.drew)
    (h : ∀ R : Act → World → Prop, (∀ a w, Q .normal a w → R a w) → RGO P l.toArray R A k N 0 ord N a w.drew) : (Code.region id l.toArray true).wp P Q a w := by
  refine Code.wp_mono (Q := OnlyNormal (Q .normal)) (fun e a w hq => by cases e <;> first | exact hq | exact hq.elim) ?_
  refine wp_region_any hm (any_of_K (A := A) (k := k) _ _ _ _ ?_)
  have h' := h _ (fun _ _ h => h) hS
  rw [← hl] at h'
  subst hn
  simpa using h'
def okTake (ops : Array Oper) (k N m i : Nat) : Bool :=
  Region.noSelect ops && Region.free .any ops (bits N m) i && (Region.ready .any ops (bits N m)).contains i && decide ((bits N m).setIfInBounds i true = bits N (m ||| 1 <<< i)) &&
    decide (i < k) && lowB k N m && closedB ops N m && (List.range N).all fun j => decide (j < k) || dep ops N i j
theorem RGO_pre {N m g i : Nat} {oi : Oper} {v : Value} {a : Act} {w : World} (hi : ops[i]? = some oi) (hc : okTake ops k N m i = true) (hy : YieldsIf P ops A oi v a)
    (h : A w → wpK P ops (OnlyNormal R) A k g (bits N (m ||| 1 <<< i)) (a.put oi.dst v) w) (hA : A w) : wpK P ops (OnlyNormal R) A k (g + 1) (bits N m) a w := by
  unfold okTake at hc
  simp only [Bool.and_eq_true, decide_eq_true_eq] at hc
  obtain ⟨⟨⟨⟨⟨⟨⟨h1, h2⟩, h3⟩, h4⟩, h5⟩, h6⟩, h7⟩, h8⟩ := hc
  have h9 : ops.size = N := by
    unfold closedB at h7
    simp only [Bool.and_eq_true, decide_eq_true_eq] at h7
    exact h7.1
  refine K_first hi h5 (Region.noSelect_spec h1) (fun _ _ _ h => h) (fun j oj hj hk => ?_) g (bits N m) a w (Region.free_spec hi h2) (by simpa using h3) hy hA (closed_of h7) (low_of h6) (by rw [h4]; exact h hA)
  have h10 := List.all_eq_true.1 h8 j (List.mem_range.2 (by rw [← h9]; exact (Array.getElem?_eq_some_iff.1 hj).1))
  simp only [Bool.or_eq_true, decide_eq_true_eq] at h10
  rcases h10 with h10 | h10
  · omega
  · exact ⟨_, h10⟩
theorem RGO_take {N m g i d : Nat} {ord : List (Nat × Nat)} {oi : Oper} {v : Value} {a : Act} {w : World} (hi : ops[i]? = some oi) (hd : oi.dst = some d) (hc : okTake ops k N m i = true)
    (hw : Region.wanted oi (yielded ops a.tmps) = true) (hy : ∀ w', A w' → (execOp a.eval oi).run P w' = .ok (.value v) w')
    (h : RGO P ops R A k N (m ||| 1 <<< i) ord g (a.put (some d) v) w) : RGO P ops R A k N m ((i, d) :: ord) (g + 1) a w :=
  RGO_pre hi hc (.inl ⟨hw, hy⟩) (by rw [hd]; exact h)
theorem RGO_skip {N m g i d : Nat} {ord : List (Nat × Nat)} {oi : Oper} {a : Act} {w : World} (hi : ops[i]? = some oi) (hd : oi.dst = some d) (hc : okTake ops k N m i = true)
    (hw : Region.wanted oi (yielded ops a.tmps) = false)
    (h : RGO P ops R A k N (m ||| 1 <<< i) ord g (a.put (some d) undef) w) : RGO P ops R A k N m ((i, d) :: ord) (g + 1) a w :=
  RGO_pre hi hc (.inr ⟨hw, rfl⟩) (by rw [hd]; exact h)
def okOne (ops : Array Oper) (N m i : Nat) : Bool := decide (Region.ready .any ops (bits N m) = [i]) && decide ((bits N m).setIfInBounds i true = bits N (m ||| 1 <<< i))
theorem pre_one {N m g i : Nat} {oi : Oper} {a : Act} {w : World} (hi : ops[i]? = some oi) (hc : okOne ops N m i = true) (hw : Region.wanted oi (yielded ops a.tmps) = true)
    (h : oi.wp P a w (fun a' w' => (low k (bits N (m ||| 1 <<< i)) → A w') ∧ wpK P ops (OnlyNormal R) A k g (bits N (m ||| 1 <<< i)) a' w') (OnlyNormal R)) : wpK P ops (OnlyNormal R) A k (g + 1) (bits N m) a w := by
  unfold okOne at hc
  simp only [Bool.and_eq_true, decide_eq_true_eq] at hc
  refine ⟨fun h0 => (by rw [hc.1] at h0; cases h0), fun j hj => ?_⟩
  rw [hc.1, List.mem_singleton] at hj
  subst hj
  unfold wpOp
  simp only [hi, hw, if_true, hc.2]
  exact .inl h
/-- One operation alone may come up; behind it reads in the order ord'. -/
theorem RGO_one (i : Nat) (ord' : List (Nat × Nat)) {N m g : Nat} {oi : Oper} {a : Act} {w : World} (hi : ops[i]? = some oi) (hc : okOne ops N m i = true) (hw : Region.wanted oi (yielded ops a.tmps) = true)
    (h : ∀ K : Act → World → Prop, (∀ a' w', A w' → RGO P ops R A k N (m ||| 1 <<< i) ord' g a' w' → K a' w') → oi.wp P a w K (OnlyNormal R)) :
    RGO P ops R A k N m [] (g + 1) a w := fun _ => pre_one hi hc hw (h _ fun _ _ hb hR => ⟨fun _ => hb, hR hb⟩)
/-- The first of the last ones. -/
theorem RGO_last (i : Nat) {N m g : Nat} {oi : Oper} {a : Act} {w : World} (hi : ops[i]? = some oi) (hc : (okOne ops N m i && decide (k ≤ i) && (bits N (m ||| 1 <<< i)).getD i false) = true) (hw : Region.wanted oi (yielded ops a.tmps) = true)
    (h : ∀ K : Act → World → Prop, (∀ a' w', RGH P ops R A k N (m ||| 1 <<< i) g a' w' → K a' w') → oi.wp P a w K (OnlyNormal R)) :
    RGO P ops R A k N m [] (g + 1) a w := fun _ => by
  simp only [Bool.and_eq_true, decide_eq_true_eq] at hc
  exact pre_one hi hc.1.1 hw (h _ fun _ _ hR => ⟨fun hl => (by have := hl i hc.1.2; rw [hc.2] at this; cases this), hR⟩)
theorem RGH_last (i : Nat) {N m g : Nat} {oi : Oper} {a : Act} {w : World} (hi : ops[i]? = some oi) (hc : (okOne ops N m i && decide (k ≤ i) && (bits N (m ||| 1 <<< i)).getD i false) = true) (hw : Region.wanted oi (yielded ops a.tmps) = true)
    (h : ∀ K : Act → World → Prop, (∀ a' w', RGH P ops R A k N (m ||| 1 <<< i) g a' w' → K a' w') → oi.wp P a w K (OnlyNormal R)) :
    RGH P ops R A k N m (g + 1) a w := by
  simp only [Bool.and_eq_true, decide_eq_true_eq] at hc
  exact pre_one hi hc.1.1 hw (h _ fun _ _ hR => ⟨fun hl => (by have := hl i hc.1.2; rw [hc.2] at this; cases this), hR⟩)
theorem K_done {listed : Array Bool} {a : Act} {w : World} (hr : Region.ready .any ops listed = []) (h : Q .normal a w) : ∀ g, wpK P ops Q A k g listed a w
  | 0 => ⟨hr, h⟩
  | _ + 1 => ⟨fun _ => h, by rw [hr]; simp⟩
theorem RGO_done {N m g : Nat} {a : Act} {w : World} (hr : Region.ready .any ops (bits N m) = []) (h : R a w) : RGO P ops R A k N m [] g a w := fun _ => K_done hr h g
theorem RGH_done {N m g : Nat} {a : Act} {w : World} (hr : Region.ready .any ops (bits N m) = []) (h : R a w) : RGH P ops R A k N m g a w := K_done hr h g
end

/-- An append whose run is known, as one operation. -/
theorem append_op {P : Program} {t : TypeId} {w w' : World} {o : Oper} {a : Act} {K : Act → World → Prop} {Q : Exit → Act → World → Prop} {x s : Operand} {v xv v' : Value}
    (hop : o.op = Op.call { callee := Callee.builtin Builtin.append, args := #[s, x], argTypes := #[t, t] }) (hs : a.eval s = v) (hx : a.eval x = xv) (hrun : (Builtin.append_ #[t, t] o.type #[v, xv]).run P w = .ok v' w')
    (h : K (a.put o.dst v') w') : o.wp P a w K Q := by
  unfold Oper.wp execOp
  simp only [hop, resolve, invoke, builtin, Sem.run_bind, Sem.run_pure, Result.andThen_ok, List.map_toArray, List.map_cons, List.map_nil, hs, hx, hrun]
  exact h
end Go.Proofs.YtkjkgpdfhmoenaaDoor.Rgu
namespace Go.Proofs.YtkjkgpdfhmoenaaDoor.Rgs
open Go Go.RowKit Go.Proofs.YtkjkgpdfhmoenaaDoor.Kit

theorem drew_heap {w : World} {b : Nat} {x : Option Obj} (h : w.heap[b]? = x) : w.drew.heap[b]? = x := h
theorem set_heap {w : World} {b b' o : Nat} {v : Value} {x : Option Obj} (hne : b ≠ b') (h : w.heap[b]? = x) : (w.setCell ⟨b', o, none⟩ v).heap[b]? = x := (Below.heap_setCell _ _ _ _ hne).trans h

section
variable {P : Program} {ops : Array Oper} {R : Act → World → Prop} {S : World → Prop}
def RGT (P : Program) (ops : Array Oper) (R : Act → World → Prop) (S : World → Prop) (N m : Nat) (_ord : List (Nat × Nat)) (g : Nat) (a : Act) (w : World) : Prop :=
  S w → wpAnyH P .any ops (OnlyNormal R) S g (Rgu.bits N m) a w
theorem RGT_begin (S : World → Prop) (N : Nat) (ord : List (Nat × Nat)) {Q : Exit → Act → World → Prop} {id : Nat} {a : Act} {w : World} {l : List Oper} (hn : l.length = N) (hl : Array.replicate N false = Rgu.bits N 0) (hm : P.follows .mixedOrders = true) (hS : S w.drew)
    (h : ∀ R : Act → World → Prop, (∀ a w, Q .normal a w → R a w) → RGT P l.toArray R S N 0 ord N a w.drew) : (Code.region id l.toArray true).wp P Q a w := by
  refine Code.wp_mono (Q := OnlyNormal (Q .normal)) (fun e a w hq => by cases e <;> first | exact hq | exact hq.elim) ?_
  refine wp_region_held (S := S) hm ?_
  have h' := h _ (fun _ _ h => h) hS
  rw [← hl] at h'
  subst hn
  simpa using h'
def okT (ops : Array Oper) (N m i : Nat) : Bool :=
  Region.noSelect ops && Region.free .any ops (Rgu.bits N m) i && (Region.ready .any ops (Rgu.bits N m)).contains i && decide ((Rgu.bits N m).setIfInBounds i true = Rgu.bits N (m ||| 1 <<< i))
theorem RGT_take {N m g i d : Nat} {ord : List (Nat × Nat)} {oi : Oper} {v : Value} {a : Act} {w : World} (hi : ops[i]? = some oi) (hd : oi.dst = some d) (hc : okT ops N m i = true)
    (hw : Region.wanted oi (yielded ops a.tmps) = true) (hy : ∀ w', S w' → (execOp a.eval oi).run P w' = .ok (.value v) w')
    (h : RGT P ops R S N (m ||| 1 <<< i) ord g (a.put (some d) v) w) : RGT P ops R S N m ((i, d) :: ord) (g + 1) a w := by
  unfold okT at hc
  simp only [Bool.and_eq_true, decide_eq_true_eq] at hc
  obtain ⟨⟨⟨h1, h2⟩, h3⟩, h4⟩ := hc
  exact fun hb => wpAnyH_take hi h1 h2 h3 (fun _ _ _ h => h) (.inl ⟨hw, fun w' hb => hy w' hb⟩) hb (by rw [h4, hd]; exact h hb)
theorem RGT_skip {N m g i d : Nat} {ord : List (Nat × Nat)} {oi : Oper} {a : Act} {w : World} (hi : ops[i]? = some oi) (hd : oi.dst = some d) (hc : okT ops N m i = true)
    (hw : Region.wanted oi (yielded ops a.tmps) = false)
    (h : RGT P ops R S N (m ||| 1 <<< i) ord g (a.put (some d) undef) w) : RGT P ops R S N m ((i, d) :: ord) (g + 1) a w := by
  unfold okT at hc
  simp only [Bool.and_eq_true, decide_eq_true_eq] at hc
  obtain ⟨⟨⟨h1, h2⟩, h3⟩, h4⟩ := hc
  exact fun hb => wpAnyH_take hi h1 h2 h3 (fun _ _ _ h => h) (.inr ⟨hw, rfl⟩) hb (by rw [h4, hd]; exact h hb)
theorem RGT_one (i : Nat) (ord' : List (Nat × Nat)) {N m g : Nat} {oi : Oper} {a : Act} {w : World} (hi : ops[i]? = some oi) (hc : Rgu.okOne ops N m i = true) (hw : Region.wanted oi (yielded ops a.tmps) = true)
    (h : ∀ K : Act → World → Prop, (∀ a' w', S w' → RGT P ops R S N (m ||| 1 <<< i) ord' g a' w' → K a' w') → oi.wp P a w K (OnlyNormal R)) :
    RGT P ops R S N m [] (g + 1) a w := fun _ => by
  unfold Rgu.okOne at hc
  simp only [Bool.and_eq_true, decide_eq_true_eq] at hc
  refine wpAnyH_all hc.1 (by simp) fun j hj => ?_
  obtain rfl : j = i := by simpa using hj
  unfold wpOp
  simp only [hi, hw, if_true, hc.2]
  exact .inl (h _ fun a' w' hb hR => ⟨hb, hR hb⟩)
theorem RGT_done {N m g : Nat} {a : Act} {w : World} (hr : Region.ready .any ops (Rgu.bits N m) = []) (h : R a w) : RGT P ops R S N m [] g a w :=
  fun _ => wpAnyH_done hr h g
end
end Go.Proofs.YtkjkgpdfhmoenaaDoor.Rgs
namespace Go.Proofs.YtkjkgpdfhmoenaaDoor.Rgu
open Go Go.RowKit Go.Proofs.YtkjkgpdfhmoenaaDoor.Kit

section
variable {P : Program} {ops : Array Oper} {A : World → Prop} {k : Nat} {Q : Exit → Act → World → Prop}
theorem low_of_set {L : Array Bool} {i : Nat} (h : low k (L.setIfInBounds i true)) (hi : i < k) : low k L := fun j hj => by
  have := h j hj
  rwa [getD_set_ne false (by omega)] at this
theorem K_free {i : Nat} {oi : Oper} {v : Value} (hi : ops[i]? = some oi) (hik : i < k) (hsel : ∀ (j : Nat) (o : Oper) cs b, ops[j]? = some o → o.op ≠ .select cs b)
    (hQ : ∀ c a w, Q (.panic c) (a.put oi.dst v) w → Q (.panic c) a w) :
    ∀ (fuel : Nat) (listed : Array Bool) (a : Act) (w : World),
      (∀ j oj, ops[j]? = some oj → j ≠ i → listed.getD j true = false → (∀ e ∈ oj.after, Region.binds .any e = true → e.on ≠ i) → oi.apart ops oj = true) →
      i ∈ Region.ready .any ops listed → YieldsIf P ops (fun _ => True) oi v a → (low k listed → A w) →
      wpK P ops Q A k fuel (listed.setIfInBounds i true) (a.put oi.dst v) w → wpK P ops Q A k (fuel + 1) listed a w := by
  intro fuel
  induction fuel with
  | zero =>
    intro listed a w _ hr hy hS H
    refine ⟨fun h => (by rw [h] at hr; cases hr), fun j hj => ?_⟩
    by_cases hji : j = i
    · subst hji; exact hy.wpOp hi trivial ⟨fun hl => hS (low_of_set hl hik), H⟩
    · have := ready_mono hj hji
      rw [H.1] at this
      cases this
  | succ fuel ih =>
    intro listed a w hfree hr hy hS H
    refine ⟨fun h => (by rw [h] at hr; cases hr), fun j hj => ?_⟩
    by_cases hji : j = i
    · subst hji; exact hy.wpOp hi trivial ⟨fun hl => hS (low_of_set hl hik), H⟩
    · have h1 := H.2 j (ready_mono hj hji)
      obtain ⟨hjun, oj, hoj, hall⟩ := mem_ready.1 hj
      have hnl : ¬ listed.getD i false = true := fun h => by
        have h0 := (mem_ready.1 hr).1
        rcases Nat.lt_or_ge i listed.size with h' | h'
        · simp [h'] at h h0; rw [h0] at h; cases h
        · simp [Array.getElem?_eq_none h'] at h
      have hnot : ∀ e ∈ oj.after, Region.binds .any e = true → e.on ≠ i := fun e he hb heq => by
        have h1 := hall e he hb
        rw [heq] at h1
        exact hnl h1
      have h2 := wpOp_putIf hoj (hfree j oj hoj hji hjun hnot) (fun cs b => hsel i oi cs b hi) (fun cs b => hsel j oj cs b hoj) hQ hy h1
      have hfree' : ∀ q ok, ops[q]? = some ok → q ≠ i → (listed.setIfInBounds j true).getD q true = false →
          (∀ e ∈ ok.after, Region.binds .any e = true → e.on ≠ i) → oi.apart ops ok = true := fun q ok hk hki hun hno => by
        refine hfree q ok hk hki ?_ hno
        by_cases hjk : j = q
        · subst hjk; exact hjun
        · rw [getD_set_ne true hjk] at hun; exact hun
      have key : low k (listed.setIfInBounds j true) → low k ((listed.setIfInBounds i true).setIfInBounds j true) := fun hl => by
        rw [Array.setIfInBounds_comm _ _ (Ne.symm hji)]
        exact low_set hl hik
      refine wpOp_mono (fun a' w' h3 => ⟨fun hl => h3.2.1 (key hl), ih (listed.setIfInBounds j true) a' w' hfree' (ready_mono hr (Ne.symm hji)) h3.1 (fun hl => h3.2.1 (key hl)) ?_⟩) h2
      rw [Array.setIfInBounds_comm _ _ hji]
      exact h3.2.2
end
section
variable {P : Program} {ops : Array Oper} {R : Act → World → Prop} {A : World → Prop} {k : Nat}
def okFree (ops : Array Oper) (k N m i : Nat) : Bool :=
  Region.noSelect ops && Region.free .any ops (bits N m) i && (Region.ready .any ops (bits N m)).contains i && decide ((bits N m).setIfInBounds i true = bits N (m ||| 1 <<< i)) && decide (i < k)
theorem RGO_free {N m g i d : Nat} {ord : List (Nat × Nat)} {oi : Oper} {v : Value} {a : Act} {w : World} (hi : ops[i]? = some oi) (hd : oi.dst = some d) (hc : okFree ops k N m i = true)
    (hw : Region.wanted oi (yielded ops a.tmps) = true) (hy : ∀ w', (execOp a.eval oi).run P w' = .ok (.value v) w')
    (h : RGO P ops R A k N (m ||| 1 <<< i) ord g (a.put (some d) v) w) : RGO P ops R A k N m ((i, d) :: ord) (g + 1) a w := by
  unfold okFree at hc
  simp only [Bool.and_eq_true, decide_eq_true_eq] at hc
  obtain ⟨⟨⟨⟨h1, h2⟩, h3⟩, h4⟩, h5⟩ := hc
  intro hA
  exact K_free hi h5 (Region.noSelect_spec h1) (fun _ _ _ h => h) g (bits N m) a w (Region.free_spec hi h2) (by simpa using h3) (.inl ⟨hw, fun w' _ => hy w'⟩) (fun _ => hA) (by rw [h4, hd]; exact h hA)
end
end Go.Proofs.YtkjkgpdfhmoenaaDoor.Rgu
