/-
  Regions that draw their order, in a round of a range over a function; what rounds leave as it lay.
-/
import Derived.OrdersIn
import Derived.Test.YtendkmldecoogaaDoorRange
namespace Go.Proofs.YtendkmldecoogaaDoor.Round
open Go Go.RowKit Go.Proofs.YtendkmldecoogaaDoor.Kit

/-- What was changed since w, and then since A: blocks of S alone lie otherwise in B than in w. -/
theorem grow {S X : Nat → Prop} {w A B : World} (h : Upd S w A) (k : Upd X A B) (hX : ∀ b, b < w.heap.size → X b → S b) : Upd S w B :=
  ⟨k.os.trans h.os, k.tape.trans h.tape, k.output.trans h.output, Nat.le_trans h.size k.size, fun b hb hn => (k.block b (Nat.lt_of_lt_of_le hb h.size) (fun hx => hn (hX b hb hx))).trans (h.block b hb hn)⟩
theorem grow_below {S : Nat → Prop} {w A B : World} (h : Upd S w A) (k : Below A.heap.size A B) : Upd S w B := grow (X := fun _ => False) h (Upd.of_below k) (fun _ _ h => h.elim)
theorem Upd.mem {S : Nat → Prop} {w A : World} (h : Upd S w A) {b : Nat} {o : Obj} (hb : w.heap[b]? = some o) (hn : ¬ S b) : A.heap[b]? = some o := (h.block b (lt_of_heap hb) hn).trans hb

/-- What lies there is put there. -/
theorem set_same {w : World} {b o : Nat} {v : Value} (h : w.cell? ⟨b, o, none⟩ = some v) : w.setCell ⟨b, o, none⟩ v = w := by
  have : (w.setCell ⟨b, o, none⟩ v).heap = w.heap := by
    apply Array.ext_getElem?
    intro i
    by_cases hi : i = b
    · subst hi
      unfold World.cell? at h
      split at h
      · rename_i c t fr hh
        rw [heap_set hh o v, hh]
        have h1 : c.setIfInBounds o v = c := by
          apply Array.ext_getElem?
          intro j
          rw [Array.getElem?_setIfInBounds]
          split
          · rename_i hj
            subst hj
            simp only [Option.isSome_none, Bool.false_eq_true, if_false] at h
            rw [h]
            split
            · rfl
            · rename_i hz
              rw [Array.getElem?_eq_none (by omega)] at h
              cases h
          · rfl
        rw [h1]
      · cases h
    · exact Below.heap_setCell _ _ _ _ hi
  show { w with heap := (w.setCell ⟨b, o, none⟩ v).heap } = w
  rw [this]
theorem set_later {W : World} {b o : Nat} {v : Value} (h : W.cell? ⟨b, o, none⟩ = some v) (hb : b < W.heap.size) (x : Later W) : x.w.setCell ⟨b, o, none⟩ v = x.w := set_same ((x.h.cell (p := ⟨b, o, none⟩) hb).trans h)

section
variable {P : Program} {ops : Array Oper}

/-- No operation puts a call off. -/
def calmOps (l : List Oper) : Bool := l.all fun o => match o.op with | .defer _ => false | _ => true

theorem calm_at {l : List Oper} (h : calmOps l = true) {i : Nat} {o : Oper} (ho : l.toArray[i]? = some o) : ∀ c, o.op ≠ .defer c := by
  intro c hc
  have h1 : o ∈ l := by
    rw [List.getElem?_toArray] at ho
    exact List.mem_of_getElem? ho
  have h2 := List.all_eq_true.1 h o h1
  rw [hc] at h2
  cases h2

theorem oper_in {o : Oper} (hd : ∀ c, o.op ≠ .defer c) {l0 : Nat} {a : Act} {w : World} {R : Act → World → Prop} {K K' : Act → World → Prop} {Q : Exit → Act → World → Prop} (hK : ∀ a w, K a w → K' a w)
    (h : o.wp P a w K (OnlyNormal R)) : o.wpIn (Fence.wide.inRound l0) 0 P a w K' Q := by
  refine ⟨fun _ _ => trivial, ?_⟩
  rw [Oper.semAt_eq _ _ _ hd]
  unfold Oper.wp at h
  generalize (execOp a.eval o).run P w = r at h ⊢
  have no : ∀ {R : Act → World → Prop}, ¬ LetsOut (OnlyNormal R) := fun ⟨_, _, h⟩ => h
  cases r with
  | ok x w' =>
    cases x with
    | value v => exact hK _ _ h
    | skip => exact hK _ _ h
    | defer d => exact hK _ _ h
    | enter f args =>
      refine ⟨(fun q => by cases q), CallsIn.inRound l0 (callsIn_wide.2 (Calls.mono h ?_))⟩
      intro e w'' he
      match e, he with
      | .returned v, he => exact hK _ _ he
      | .panicked c, he => exact he.elim
      | .outgrown, he => exact (no he).elim
    | row row args =>
      refine ⟨(fun q => by cases q), fun c cs _ => ?_⟩
      obtain ⟨v, w'', r, s⟩ := Rows.mono h (R' := fun v w'' => K' (a.put o.dst v) w'') (fun _ _ he => hK _ _ he) c cs
      exact ⟨v, w'', r, stepsIn_wide.2 s⟩
    | _ => exact h.elim
  | halt x w' =>
    cases x with
    | panic v => exact h.elim
    | _ => exact h.elim

theorem any_in {l : List Oper} (hd : calmOps l = true) {l0 : Nat} {Q : Exit → Act → World → Prop} : ∀ (n : Nat) (listed : Array Bool) (a : Act) (w : World),
    wpAny P .any l.toArray (OnlyNormal (Q .normal)) n listed a w → wpAnyIn (Fence.wide.inRound l0) 0 P .any l.toArray Q n listed a w
  | 0, _, _, _, h => h
  | n + 1, listed, a, w, h => by
    refine ⟨h.1, fun i hi => ?_⟩
    have h2 := h.2 i hi
    unfold wpOp at h2
    unfold wpOpIn
    cases ho : l.toArray[i]? with
    | none =>
      rw [ho] at h2
      exact any_in hd n _ a w h2
    | some o =>
      rw [ho] at h2
      simp only at h2 ⊢
      split
      · rename_i hw
        rw [if_pos hw] at h2
        rcases h2 with h2 | ⟨_, a1, w1, h3⟩
        · exact oper_in (calm_at hd ho) (fun a w h => any_in hd n _ a w h) h2
        · exact h3.elim
      · rename_i hw
        rw [if_neg hw] at h2
        exact ⟨fun _ _ => trivial, any_in hd n _ _ w h2⟩

variable {id : Nat} {Q : Exit → Act → World → Prop} {a : Act} {W : World} {l : List Oper} {l0 : Nat}

/-- 'region_tail', in a round. -/
theorem region_tail_in (n : Nat) (hm : P.follows .mixedOrders = true) (hB : Region.lexTailB .any l.toArray n = true) (hd : calmOps l = true)
    (h : wpStill P l.toArray W.drew (fun a' => wpList P l.toArray (OnlyNormal (Q .normal)) (l.drop n) a' W.drew) (l.take n) a) : (Code.region id l.toArray true).wpIn (Fence.wide.inRound l0) 0 P Q a W := by
  simp only [Region.lexTailB, Bool.and_eq_true, decide_eq_true_eq] at hB
  obtain ⟨⟨⟨⟨hsel, hn⟩, hs⟩, hc⟩, hlex⟩ := hB
  have hn' : n < l.length := by simpa using hn
  have htl : (l.take n).length = n := by simp; omega
  have hdl : (l.drop n).length = l.toArray.size - n := by simp
  have inv0 : HeadInv .any l.toArray n (Array.replicate l.toArray.size false) :=
    ⟨by simp, fun j oj _ hl => (by rw [getD_replicate_false] at hl; cases hl), fun t _ ht => getD_in (by simpa using ht) (getD_replicate_false _ _)⟩
  have H := wpAnyL_lex (md := .any) (g := l.toArray.size - n) hsel hs hc hn (l.take n) 0 _ a (fun j hj => by
    have hj' : j < n := by rw [htl] at hj; exact hj
    simp [hj']) (by simpa using htl) inv0 (by rw [htl]; exact hlex) h
  refine wpIn_region_any hm (any_in hd _ _ _ _ ?_)
  have := wpAny_of_head (Q' := OnlyNormal (Q .normal)) (g := l.toArray.size - n) (fun listed a' hL => by
    have := wpAny_of_seq (md := .any) (Q' := OnlyNormal (Q .normal)) (l.drop n) n listed a' { W with drawn := W.drawn + 1 } (fun j => by simp [List.getElem?_drop]) (by rw [hdl]; exact hL.1) hL.2
    rwa [hdl] at this) _ _ _ H
  rw [htl, show n + (l.toArray.size - n) = l.toArray.size by omega] at this
  exact this

/-- 'region_later', in a round. -/
theorem region_later_in (n : Nat) (hm : P.follows .mixedOrders = true) (hB : Region.lexTailB .any l.toArray n = true) (hd : calmOps l = true)
    (h : wpQuiet P l.toArray (fun w' => ∃ x : Later W, w' = x.w) (fun a' => ∀ x : Later W, wpList P l.toArray (OnlyNormal (Q .normal)) (l.drop n) a' x.w) (l.take n) a) : (Code.region id l.toArray true).wpIn (Fence.wide.inRound l0) 0 P Q a W := by
  simp only [Region.lexTailB, Bool.and_eq_true, decide_eq_true_eq] at hB
  obtain ⟨⟨⟨⟨hsel, hn⟩, hs⟩, hc⟩, hlex⟩ := hB
  have hn' : n < l.length := by simpa using hn
  have htl : (l.take n).length = n := by simp; omega
  have hdl : (l.drop n).length = l.toArray.size - n := by simp
  have inv0 : HeadInv .any l.toArray n (Array.replicate l.toArray.size false) :=
    ⟨by simp, fun j oj _ hl => (by rw [getD_replicate_false] at hl; cases hl), fun t _ ht => getD_in (by simpa using ht) (getD_replicate_false _ _)⟩
  have H := anyLQ_lex (md := .any) (g := l.toArray.size - n) hsel hs hc hn (l.take n) 0 _ a (fun j hj => by
    have hj' : j < n := by rw [htl] at hj; exact hj
    simp [hj']) (by simpa using htl) inv0 (by rw [htl]; exact hlex) h
  refine wpIn_region_any hm (any_in hd _ _ _ _ ?_)
  rw [show l.toArray.size = n + (l.toArray.size - n) by omega]
  rw [htl] at H
  refine any_of_headQ (C := fun w' => ∃ x : Later W, w' = x.w) (fun listed a' w' hw' hL => ?_) n _ a _ ⟨⟨_, (Below.refl _ _).drew⟩, rfl⟩ (by simpa [show n + (l.length - n) = l.length by omega] using H)
  obtain ⟨x, rfl⟩ := hw'
  have := wpAny_of_seq (P := P) (md := .any) (Q' := OnlyNormal (Q .normal)) (l.drop n) n listed a' x.w (fun j => by simp) (by rw [hdl]; exact hL.1) (hL.2 x)
  rwa [hdl] at this

/-- 'region_calm', in a round. -/
theorem region_calm_in (hm : P.follows .mixedOrders = true) (hB : Region.lexB .any l.toArray = true) (hd : calmOps l = true)
    (h : wpQuiet P l.toArray (fun w' => ∃ x : Later W, w' = x.w) (fun a' => ∀ w', (∃ x : Later W, w' = x.w) → Q .normal a' w') l a) : (Code.region id l.toArray true).wpIn (Fence.wide.inRound l0) 0 P Q a W := by
  simp only [Region.lexB, Bool.and_eq_true] at hB
  refine wpIn_region_any hm (any_in hd _ _ _ _ (wpAny_of_quiet (C := fun w' => ∃ x : Later W, w' = x.w) (Q' := OnlyNormal (Q .normal)) (Q := fun a' => ∀ w', (∃ x : Later W, w' = x.w) → Q .normal a' w') (fun _ w' hw' h => h w' hw') _ _ _ _ ⟨⟨_, (Below.refl _ _).drew⟩, rfl⟩ ?_))
  have := wpAnyQ_lex (C := fun w' => ∃ x : Later W, w' = x.w) (md := .any) hB.1 l 0 (Array.replicate l.length false) a (by simp) (by simpa using hB.2) h
  simpa using this
end
end Go.Proofs.YtendkmldecoogaaDoor.Round
