/-
  A range over a function: what the iterator promises, round by round, and the statement's law; outermost, or in a round of another one.
-/
import Derived.RangeFuncIn
import Derived.RangeFuncRecord
import Derived.RangeFuncLeaves
import Derived.RangeFuncNested
import Derived.Shelf.Abstract
import Derived.Shelf.RegionOpen
import Derived.OwnWalkIn
import Derived.TacticsInMore
import Derived.LoopNIn
import Derived.LoopIn
import Derived.Test.YtkjkgpdfhmoenaaDoorProg
import Derived.Test.YtkjkgpdfhmoenaaDoorKit
namespace Go.Proofs.YtkjkgpdfhmoenaaDoor.Range
open Go Go.RowKit Go.Proofs.YtkjkgpdfhmoenaaDoor.Kit

variable {P : Program}

/-- A call of yield: it asks for a round, and what that answers. -/
def Yields (P : Program) (l : Nat) (args : Array Value) (W : World) (R : Ending → World → Prop) : Prop :=
  ∃ fn tmps assign body, (Instr.yield l args).run P W = .ok (.round l fn tmps assign body) W ∧ RoundIn Fence.wide 0 P l fn tmps assign body W R

/-- How a round may end: it changes blocks of S and new ones alone. -/
def Goes (J Jx : Nat → (Nat → Prop) → World → Prop) (k : Nat) (S : Nat → Prop) (A : World) (e : Ending) (B : World) : Prop :=
  (e = .returned (.bool true) ∧ ∃ S', J (k + 1) S' B ∧ Upd S A B ∧ ∀ b, S' b → S b ∨ A.heap.size ≤ b) ∨
  (e = .returned (.bool false) ∧ ∃ S', Jx k S' B ∧ Upd S A B ∧ ∀ b, S' b → S b ∨ A.heap.size ≤ b)

/-- An iterator that hands out encs 0, .., encs (N - 1): it leans on the blocks of Cap and on its own new ones. J k S: k rounds are over, and what the rounds keep lies in blocks of S and in what lay ahead of the call. -/
def Iter (P : Program) (g : Nat) (lb : Array Value) (encs : Nat → Array Value) (N : Nat) (Cap : Nat → Prop) (w0 : World) : Prop :=
  ∀ (l : Nat) (J Jx : Nat → (Nat → Prop) → World → Prop) (W : World), Below w0.heap.size w0 W →
    (∀ k S A B, J k S A → Upd (fun b => W.heap.size ≤ b ∧ ¬ S b) A B → J k S B) →
    (∀ k S A B, Jx k S A → Upd (fun b => W.heap.size ≤ b ∧ ¬ S b) A B → Jx k S B) →
    (∀ k S A, J k S A → W.heap.size ≤ A.heap.size ∧ ∀ b, S b → b < A.heap.size ∧ ¬ Cap b) →
    (∀ k S A, k < N → J k S A → Yields P l (encs k) A (Goes J Jx k S A)) →
    ∀ S0, J 0 S0 W →
    CallsIn Fence.wide 0 P g (#[.func (.yield l) #[] #[]] ++ lb) W fun e B => (∃ v, e = .returned v) ∧ ((∃ S', J N S' B) ∨ ∃ k S', k < N ∧ Jx k S' B)

theorem Iter.later {g : Nat} {lb : Array Value} {encs : Nat → Array Value} {N : Nat} {Cap : Nat → Prop} {w w' : World} (h : Iter P g lb encs N Cap w) (hb : Below w.heap.size w w') : Iter P g lb encs N Cap w' :=
  fun l J Jx W hW => h l J Jx W (chain hb hW)

/-- How the body of a round may be left. -/
def RoundEnd (I : Nat → (Nat → Prop) → World → Prop) (Ix : Code → Nat → (Nat → Prop) → World → Prop) (k : Nat) (S : Nat → Prop) (A A2 : World) : Exit → Act → World → Prop
  | .normal, _, B => ∃ S', I (k + 1) S' B ∧ Upd (fun b => S b ∨ A.heap.size ≤ b) A2 B ∧ ∀ b, S' b → (S b ∨ A.heap.size ≤ b) ∧ b < B.heap.size
  | .ret, _, B => ∃ S', Ix .ret k S' B ∧ Upd (fun b => S b ∨ A.heap.size ≤ b) A2 B ∧ ∀ b, S' b → (S b ∨ A.heap.size ≤ b) ∧ b < B.heap.size
  | .exit id, _, B => ∃ S', Ix (.exit id) k S' B ∧ Upd (fun b => S b ∨ A.heap.size ≤ b) A2 B ∧ ∀ b, S' b → (S b ∨ A.heap.size ≤ b) ∧ b < B.heap.size
  | .goto t, _, B => ∃ S', Ix (.goto t) k S' B ∧ Upd (fun b => S b ∨ A.heap.size ≤ b) A2 B ∧ ∀ b, S' b → (S b ∨ A.heap.size ≤ b) ∧ b < B.heap.size
  | .panic _, _, _ => False
  | .outgrown, _, _ => False

theorem upd_put (W : World) (l : Nat) (o : Obj) : Upd (fun b => b = l) W (W.putObj l o) :=
  ⟨rfl, rfl, rfl, by simp, fun _ _ hk => World.putObj_heap_other hk⟩

variable {g : Operand} {ps : Array Tmp} {assign body : Code} {Q : Exit → Act → World → Prop} {a : Act} {w : World} {gf : Nat} {lb : Array Value} {encs : Nat → Array Value} {N : Nat} {Cap : Nat → Prop} {w0 : World}

/-- The statement's law: the loop's record is l, and blocks of its own stand behind w up to w1's end. -/
theorem range_core (F : Fence) (hF : F = Fence.wide ∨ ∃ l0, F = Fence.wide.inRound l0) (hg : a.eval g = .func (.func gf) #[] lb) (eg : ∀ args w, (callFunc gf args).run P w = .ok (.enter gf args) w)
    (hit : Iter P gf lb encs N Cap w0) (hb0 : Below w0.heap.size w0 w) (hps : ∀ k, (encs k).size = ps.size) (hcap : ∀ b, Cap b → b < w.heap.size)
    (l d : Nat) (mark : List Deferred) (w1 : FuncId → World)
    (hent : ∀ fn, (Instr.enterLoop fn a.tmps ps assign body F.round).run P w = .ok (l, mark) (w1 fn))
    (hw1 : ∀ fn, Below w.heap.size w (w1 fn)) (hl1 : ∀ fn, (w1 fn).heap[l]? = some (.loop { state := .ready, pending := none, fn, tmps := a.tmps, params := ps, assign, body, defers := d })) (hl0 : w.heap.size ≤ l)
    (I : Nat → (Nat → Prop) → World → Prop) (Ix : Code → Nat → (Nat → Prop) → World → Prop)
    (hI : ∀ k S A B, I k S A → Upd (fun b => w.heap.size ≤ b ∧ ¬ S b) A B → I k S B)
    (hIx : ∀ c k S A B, Ix c k S A → Upd (fun b => w.heap.size ≤ b ∧ ¬ S b) A B → Ix c k S B)
    (S0 : Nat → Prop) (h0 : I 0 S0 w) (hS0 : ∀ b, S0 b → b < w.heap.size ∧ ¬ Cap b)
    (hround : ∀ k S A, k < N → I k S A → w.heap.size < A.heap.size → l < A.heap.size → ¬ S l → (∃ r, A.heap[l]? = some (.loop r)) → (∀ b, S b → b < A.heap.size ∧ ¬ Cap b) →
      assign.wpIn (Fence.wide.inRound l) 0 P (Exit.then (fun a1 A1 => Below A.heap.size A A1 ∧ ∀ A2, Upd (fun b => b = l) A1 A2 → A2.heap.size = A1.heap.size → I k S A2 → (∃ r, A2.heap[l]? = some (.loop r)) → body.wpIn (Fence.wide.inRound l) 0 P (RoundEnd I Ix k S A A2) a1 A2) (fun _ _ _ => False))
        { tmps := (ps.zip (encs k)).foldl (fun t (p, v) => t.setIfInBounds p v) a.tmps, defers := [] } A)
    (hdone : ∀ fn S B, I N S B → (∀ b, w.heap.size ≤ b → b < (w1 fn).heap.size → b ≠ l → B.heap[b]? = (w1 fn).heap[b]?) → (w1 fn).heap.size ≤ B.heap.size → Q .normal { a with defers := mark ++ a.defers } B)
    (hstop : ∀ fn c k S B, k < N → Ix c k S B → (∀ b, w.heap.size ≤ b → b < (w1 fn).heap.size → b ≠ l → B.heap[b]? = (w1 fn).heap[b]?) → (w1 fn).heap.size ≤ B.heap.size → c.wpIn F 0 P Q { a with defers := mark ++ a.defers } B) :
    (Code.rangeFunc g ps assign body).wpIn F 0 P Q a w := by
  refine wpIn_rangeFunc ?_
  intro fn _
  have hFfn : ∀ f, F.fn f := fun f => by rcases hF with rfl | ⟨l0, rfl⟩ <;> trivial
  have hFd : F.depth.isSome = true → 1 ≤ 0 := fun h => by rcases hF with rfl | ⟨l0, rfl⟩ <;> simp [Fence.wide, Fence.inRound] at h
  obtain ⟨rec, hrec⟩ : ∃ rec : LoopState → Option Code → Loop, rec = fun st pe => { state := st, pending := pe, fn, tmps := a.tmps, params := ps, assign, body, defers := d } := ⟨_, rfl⟩
  obtain ⟨W1, hW1⟩ : ∃ W1, w1 fn = W1 := ⟨_, rfl⟩
  have hL1 : W1.heap[l]? = some (.loop (rec .ready none)) := by rw [← hW1, hrec]; exact hl1 fn
  have hB1 : Below w.heap.size w W1 := by rw [← hW1]; exact hw1 fn
  have hlW := lt_of_heap hL1
  refine ⟨l, mark, W1, { target := .fn (.func gf) lb, args := #[.func (.yield l) #[] #[]] }, W1, gf, #[.func (.yield l) #[] #[]] ++ lb, W1, by rw [← hW1]; exact hent fn, ?_, ?_, ?_, hFd, ?_⟩
  · simp only [resolve, hg]
    simp [go_sem]
  · intro f' _
    exact hFfn f'
  · simp [invoke, go_sem, eg]
  -- what stands between two rounds
  have hcall := hit l
    (fun k S A => ∃ S1 : Nat → Prop, (∀ b, S b ↔ S1 b ∨ b = l) ∧ I k S1 A ∧ A.heap[l]? = some (.loop (rec .ready none)) ∧ (∀ b, w.heap.size ≤ b → b < W1.heap.size → b ≠ l → A.heap[b]? = W1.heap[b]?) ∧ W1.heap.size ≤ A.heap.size ∧ ∀ b, S1 b → b < A.heap.size ∧ ¬ Cap b ∧ (b < w.heap.size ∨ W1.heap.size ≤ b))
    (fun k S A => ∃ (S1 : Nat → Prop) (c : Code), (∀ b, S b ↔ S1 b ∨ b = l) ∧ Ix c k S1 A ∧ A.heap[l]? = some (.loop (rec .done (some c))) ∧ (∀ b, w.heap.size ≤ b → b < W1.heap.size → b ≠ l → A.heap[b]? = W1.heap[b]?) ∧ W1.heap.size ≤ A.heap.size ∧ ∀ b, S1 b → b < A.heap.size ∧ ¬ Cap b ∧ (b < w.heap.size ∨ W1.heap.size ≤ b))
    W1 (chain hb0 hB1) ?j ?jx ?s ?y (fun b => S0 b ∨ b = l) ?st
  case j =>
    rintro k S A B ⟨S1, hS, hi, hl, hk, hz, hs⟩ hu
    have h1 : Upd (fun b => w.heap.size ≤ b ∧ ¬ S1 b) A B := hu.mono fun b _ h => ⟨Nat.le_trans hB1.size h.1, fun hb => h.2 ((hS b).2 (.inl hb))⟩
    refine ⟨S1, hS, hI _ _ _ _ hi h1, (hu.block l (lt_of_heap hl) fun h => h.2 ((hS l).2 (.inr rfl))).trans hl, fun b h2 h3 h4 => (hu.block b (by omega) fun h => by omega).trans (hk b h2 h3 h4), Nat.le_trans hz hu.size, fun b hb => ⟨Nat.lt_of_lt_of_le (hs b hb).1 hu.size, (hs b hb).2⟩⟩
  case jx =>
    rintro k S A B ⟨S1, c, hS, hi, hl, hk, hz, hs⟩ hu
    have h1 : Upd (fun b => w.heap.size ≤ b ∧ ¬ S1 b) A B := hu.mono fun b _ h => ⟨Nat.le_trans hB1.size h.1, fun hb => h.2 ((hS b).2 (.inl hb))⟩
    refine ⟨S1, c, hS, hIx _ _ _ _ _ hi h1, (hu.block l (lt_of_heap hl) fun h => h.2 ((hS l).2 (.inr rfl))).trans hl, fun b h2 h3 h4 => (hu.block b (by omega) fun h => by omega).trans (hk b h2 h3 h4), Nat.le_trans hz hu.size, fun b hb => ⟨Nat.lt_of_lt_of_le (hs b hb).1 hu.size, (hs b hb).2⟩⟩
  case s =>
    rintro k S A ⟨S1, hS, hi, hl, hk, hz, hs⟩
    refine ⟨hz, fun b hb => ?_⟩
    rcases (hS b).1 hb with h | rfl
    · exact ⟨(hs b h).1, (hs b h).2.1⟩
    · exact ⟨lt_of_heap hl, fun h => by have := hcap _ h; omega⟩
  case st =>
    refine ⟨S0, fun b => Iff.rfl, hI _ _ _ _ h0 (.of_below hB1), hL1, fun b _ _ _ => rfl, Nat.le_refl _, fun b hb => ⟨Nat.lt_of_lt_of_le (hS0 b hb).1 hB1.size, (hS0 b hb).2, .inl (hS0 b hb).1⟩⟩
  case y =>
    rintro k S A hk ⟨S1, hS, hi, hl, hkp, hz, hs⟩
    have hlA := lt_of_heap hl
    have hnl : ¬ S1 l := fun h => by have := (hs l h).2.2; omega
    have hy := run_yield (P := P) (args := encs k) hl (by rw [hrec]; exact hps k)
    rw [hrec] at hy
    refine ⟨fn, _, assign, body, hy, roundIn_of_wpIn trivial (wpIn_mono (hround k S1 A hk hi (by omega) hlA hnl ⟨_, hl⟩ (fun b hb => ⟨(hs b hb).1, (hs b hb).2.1⟩)) ?_)⟩
    clear hy
    intro e a1 A1 hp
    cases e with
    | normal =>
      obtain ⟨hbA, hp⟩ := hp
      have hl1' : A1.heap[l]? = some (.loop (rec .ready none)) := (hbA.block l hlA).trans hl
      have hbeg := run_beginRound (P := P) hl1' (by rw [hrec])
      refine ⟨_, hbeg, ?_⟩
      obtain ⟨A2, hA2⟩ : ∃ A2, A1.putObj l (.loop { rec .ready none with state := .busy }) = A2 := ⟨_, rfl⟩
      have hu2 : Upd (fun b => b = l) A1 A2 := by rw [← hA2]; exact upd_put _ _ _
      have hz2 : A2.heap.size = A1.heap.size := by rw [← hA2]; simp
      have hl2 : A2.heap[l]? = some (.loop { rec .ready none with state := .busy }) := by rw [← hA2]; exact World.putObj_heap_same (lt_of_heap hl1')
      have hi2 : I k S1 A2 := hI _ _ _ _ hi ((Upd.of_below hbA).trans (hu2.mono fun b _ e => by subst e; exact ⟨hl0, hnl⟩))
      rw [hA2]
      refine wpIn_mono (hp A2 hu2 hz2 hi2 ⟨_, hl2⟩) ?_
      have hAs := hbA.size
      have fin : ∀ (jump : Option Code) (B : World) (S' : Nat → Prop), Upd (fun b => S1 b ∨ A.heap.size ≤ b) A2 B → (∀ b, S' b → (S1 b ∨ A.heap.size ≤ b) ∧ b < B.heap.size) →
          ∃ B', (Instr.endRound l jump).run P B = .ok (.bool jump.isNone) B' ∧ Upd (fun b => b = l) B B' ∧ B'.heap[l]? = some (.loop (rec (if jump.isNone then .ready else .done) jump)) ∧
          (∀ b, w.heap.size ≤ b → b < W1.heap.size → b ≠ l → B'.heap[b]? = W1.heap[b]?) ∧ W1.heap.size ≤ B'.heap.size ∧ (∀ b, S' b → b < B'.heap.size ∧ ¬ Cap b ∧ (b < w.heap.size ∨ W1.heap.size ≤ b)) ∧ Upd S A B' ∧ ¬ S' l := by
        intro jump B S' hu3 hs'
        have hl3 : B.heap[l]? = some (.loop { rec .ready none with state := .busy }) := (hu3.block l (lt_of_heap hl2) (fun h => h.elim hnl (fun h => by omega))).trans hl2
        have hend := run_endRound (P := P) jump hl3
        have hu4 : Upd (fun b => b = l) B (B.putObj l (.loop { { rec .ready none with state := .busy } with state := if jump.isNone then .ready else .done, pending := jump })) := upd_put _ _ _
        have h3 := hu3.size
        have h4 := hu4.size
        refine ⟨_, hend, hu4, ?_, fun b h5 h6 h7 => ?_, by rw [World.putObj_size]; omega, fun b hb => ?_, ?_, fun h => ?_⟩
        · rw [World.putObj_heap_same (lt_of_heap hl3), hrec]
        · have hbA' : b < A.heap.size := by omega
          have hnb : ¬ S1 b := fun h => by have := (hs b h).2.2; omega
          rw [World.putObj_heap_other h7, hu3.block b (by omega) (fun h => h.elim hnb (fun h => by omega)), hu2.block b (by omega) h7, hbA.block b hbA', hkp b h5 h6 h7]
        · obtain ⟨h5, h6⟩ := hs' b hb
          refine ⟨Nat.lt_of_lt_of_le h6 hu4.size, ?_, ?_⟩
          · rcases h5 with h5 | h5
            · exact (hs b h5).2.1
            · exact fun h => by have := hcap b h; omega
          · rcases h5 with h5 | h5
            · exact (hs b h5).2.2
            · exact .inr (by omega)
        · refine ⟨hu4.os.trans (hu3.os.trans (hu2.os.trans hbA.os)), hu4.tape.trans (hu3.tape.trans (hu2.tape.trans hbA.tape)), hu4.output.trans (hu3.output.trans (hu2.output.trans hbA.output)), by rw [World.putObj_size]; omega, fun b hb hnS => ?_⟩
          have hnb : ¬ S1 b := fun h => hnS ((hS b).2 (.inl h))
          have hne : b ≠ l := fun h => hnS ((hS b).2 (.inr h))
          rw [World.putObj_heap_other hne, hu3.block b (by omega) (fun h => h.elim hnb (fun h => by omega)), hu2.block b (by omega) hne, hbA.block b hb]
        · obtain ⟨h5, _⟩ := hs' l h
          rcases h5 with h5 | h5
          · exact hnl h5
          · omega
      have stop : ∀ (c : Code) (B : World), (∃ S', Ix c k S' B ∧ Upd (fun b => S1 b ∨ A.heap.size ≤ b) A2 B ∧ ∀ b, S' b → (S1 b ∨ A.heap.size ≤ b) ∧ b < B.heap.size) → ∃ v w', (Instr.endRound l (some c)).run P B = .ok v w' ∧ Goes
          (fun k S A => ∃ S1 : Nat → Prop, (∀ b, S b ↔ S1 b ∨ b = l) ∧ I k S1 A ∧ A.heap[l]? = some (.loop (rec .ready none)) ∧ (∀ b, w.heap.size ≤ b → b < W1.heap.size → b ≠ l → A.heap[b]? = W1.heap[b]?) ∧ W1.heap.size ≤ A.heap.size ∧ ∀ b, S1 b → b < A.heap.size ∧ ¬ Cap b ∧ (b < w.heap.size ∨ W1.heap.size ≤ b))
          (fun k S A => ∃ (S1 : Nat → Prop) (c : Code), (∀ b, S b ↔ S1 b ∨ b = l) ∧ Ix c k S1 A ∧ A.heap[l]? = some (.loop (rec .done (some c))) ∧ (∀ b, w.heap.size ≤ b → b < W1.heap.size → b ≠ l → A.heap[b]? = W1.heap[b]?) ∧ W1.heap.size ≤ A.heap.size ∧ ∀ b, S1 b → b < A.heap.size ∧ ¬ Cap b ∧ (b < w.heap.size ∨ W1.heap.size ≤ b))
          k S A (.returned v) w' := by
        rintro c B ⟨S', hi3, hu3, hs'⟩
        obtain ⟨B', hr, hu4, hl4, hk4, hz4, hs4, hu5, hnl'⟩ := fin (some c) B S' hu3 hs'
        refine ⟨_, _, hr, .inr ⟨rfl, fun b => S' b ∨ b = l, ⟨S', c, fun b => Iff.rfl, hIx _ _ _ _ _ hi3 (hu4.mono fun b _ e => by subst e; exact ⟨hl0, hnl'⟩), hl4, hk4, hz4, hs4⟩, hu5, fun b hb => ?_⟩⟩
        rcases hb with hb | rfl
        · exact (hs' b hb).1.elim (fun h => .inl ((hS b).2 (.inl h))) .inr
        · exact .inl ((hS _).2 (.inr rfl))
      rintro e a3 B hp3
      cases e with
      | normal =>
        obtain ⟨S', hi3, hu3, hs'⟩ := hp3
        obtain ⟨B', hr, hu4, hl4, hk4, hz4, hs4, hu5, hnl'⟩ := fin none B S' hu3 hs'
        refine ⟨_, _, hr, .inl ⟨rfl, fun b => S' b ∨ b = l, ⟨S', fun b => Iff.rfl, hI _ _ _ _ hi3 (hu4.mono fun b _ e => by subst e; exact ⟨hl0, hnl'⟩), hl4, hk4, hz4, hs4⟩, hu5, fun b hb => ?_⟩⟩
        rcases hb with hb | rfl
        · exact (hs' b hb).1.elim (fun h => .inl ((hS b).2 (.inl h))) .inr
        · exact .inl ((hS _).2 (.inr rfl))
      | ret => exact stop .ret B hp3
      | exit id => exact stop (.exit id) B hp3
      | goto t => exact stop (.goto t) B hp3
      | panic ch => exact hp3.elim
      | outgrown => exact hp3.elim
    | exit id => exact hp.elim
    | goto t => exact hp.elim
    | ret => exact hp.elim
    | panic ch => exact hp.elim
    | outgrown => exact hp.elim
  have up : ∀ R, CallsIn Fence.wide 0 P gf (#[.func (.yield l) #[] #[]] ++ lb) W1 R → CallsIn F (0 - 1) P gf (#[.func (.yield l) #[] #[]] ++ lb) W1 R := fun R h => by
    rcases hF with rfl | ⟨l0, rfl⟩
    · exact h
    · exact h.inRound l0
  refine (up _ hcall).mono ?_
  rintro e B ⟨⟨v, rfl⟩, ⟨S', S1, hS, hi, hl, hk, hz, hs⟩ | ⟨k, S', hkN, S1, c, hS, hi, hl, hk, hz, hs⟩⟩
  · have hend := run_endLoop (P := P) hl (by rw [hrec]; simp)
    have hnl : ¬ S1 l := fun h => by have := (hs l h).2.2; omega
    rw [hrec] at hend
    refine ⟨none, _, hend, hdone fn S1 _ (hI _ _ _ _ hi ((upd_put _ _ _).mono fun b _ e => by subst e; exact ⟨hl0, hnl⟩)) (fun b h1 h2 h3 => ?_) (by rw [hW1]; simpa using hz)⟩
    rw [World.putObj_heap_other h3, hW1]
    exact hk b h1 (by rw [← hW1]; exact h2) h3
  · have hend := run_endLoop (P := P) hl (by rw [hrec]; simp)
    have hnl : ¬ S1 l := fun h => by have := (hs l h).2.2; omega
    rw [hrec] at hend
    refine ⟨some c, _, hend, hstop fn c k S1 _ hkN (hIx _ _ _ _ _ hi ((upd_put _ _ _).mono fun b _ e => by subst e; exact ⟨hl0, hnl⟩)) (fun b h1 h2 h3 => ?_) (by rw [hW1]; simpa using hz)⟩
    rw [World.putObj_heap_other h3, hW1]
    exact hk b h1 (by rw [← hW1]; exact h2) h3

/-- The mark that an outermost such loop leaves. -/
def marked (d : Nat) : Deferred := { target := .collected d, args := #[] }

/-- The outermost one. -/
theorem range_outer (hg : a.eval g = .func (.func gf) #[] lb) (eg : ∀ args w, (callFunc gf args).run P w = .ok (.enter gf args) w)
    (hit : Iter P gf lb encs N Cap w0) (hb0 : Below w0.heap.size w0 w) (hps : ∀ k, (encs k).size = ps.size) (hcap : ∀ b, Cap b → b < w.heap.size)
    (I : Nat → (Nat → Prop) → World → Prop) (Ix : Code → Nat → (Nat → Prop) → World → Prop)
    (hI : ∀ k S A B, I k S A → Upd (fun b => w.heap.size ≤ b ∧ ¬ S b) A B → I k S B)
    (hIx : ∀ c k S A B, Ix c k S A → Upd (fun b => w.heap.size ≤ b ∧ ¬ S b) A B → Ix c k S B)
    (S0 : Nat → Prop) (h0 : I 0 S0 w) (hS0 : ∀ b, S0 b → b < w.heap.size ∧ ¬ Cap b)
    (hround : ∀ l k S A, k < N → I k S A → w.heap.size < A.heap.size → w.heap.size < l → l < A.heap.size → ¬ S l → (∃ r, A.heap[l]? = some (.loop r)) → (∀ b, S b → b < A.heap.size ∧ ¬ Cap b) →
      assign.wpIn (Fence.wide.inRound l) 0 P (Exit.then (fun a1 A1 => Below A.heap.size A A1 ∧ ∀ A2, Upd (fun b => b = l) A1 A2 → A2.heap.size = A1.heap.size → I k S A2 → (∃ r, A2.heap[l]? = some (.loop r)) → body.wpIn (Fence.wide.inRound l) 0 P (RoundEnd I Ix k S A A2) a1 A2) (fun _ _ _ => False))
        { tmps := (ps.zip (encs k)).foldl (fun t (p, v) => t.setIfInBounds p v) a.tmps, defers := [] } A)
    (hdone : ∀ S B, I N S B → B.heap[w.heap.size]? = some (.deferred (some [])) → Q .normal { a with defers := marked w.heap.size :: a.defers } B)
    (hstop : ∀ c k S B, k < N → Ix c k S B → B.heap[w.heap.size]? = some (.deferred (some [])) → c.wp P Q { a with defers := marked w.heap.size :: a.defers } B) :
    (Code.rangeFunc g ps assign body).wp P Q a w := by
  refine wpIn_wide.1 (range_core (w0 := w0) (N := N) (Cap := Cap) (encs := encs) Fence.wide (.inl rfl) hg eg hit hb0 hps hcap (w.heap.size + 1) w.heap.size [marked w.heap.size]
    (fun fn => (w.alloc (.deferred (some []))).alloc (.loop { state := .ready, pending := none, fn, tmps := a.tmps, params := ps, assign, body, defers := w.heap.size }))
    (fun fn => run_enterLoop_outer _ _ _ _ _) (fun fn => ((Below.refl _ w).alloc (Nat.le_refl _) _).alloc (by simp) _) (fun fn => alloc_new (by simp)) (by omega) I Ix hI hIx S0 h0 hS0
    (fun k S A hk hi h1 h2 h3 h4 h5 => hround _ k S A hk hi h1 (by omega) h2 h3 h4 h5) (fun fn S B hi hk hz => ?_) (fun fn c k S B hkN hi hk hz => ?_))
  · refine hdone S B hi ?_
    rw [hk w.heap.size (Nat.le_refl _) (by simp; omega) (by omega), alloc_old (by simp), alloc_new rfl]
  · refine wpIn_wide.2 (hstop c k S B hkN hi ?_)
    rw [hk w.heap.size (Nat.le_refl _) (by simp; omega) (by omega), alloc_old (by simp), alloc_new rfl]

/-- One in a round of the loop l0. -/
theorem range_inner (l0 : Nat) (r0 : Loop) (hr0 : w.heap[l0]? = some (.loop r0)) (hg : a.eval g = .func (.func gf) #[] lb) (eg : ∀ args w, (callFunc gf args).run P w = .ok (.enter gf args) w)
    (hit : Iter P gf lb encs N Cap w0) (hb0 : Below w0.heap.size w0 w) (hps : ∀ k, (encs k).size = ps.size) (hcap : ∀ b, Cap b → b < w.heap.size)
    (I : Nat → (Nat → Prop) → World → Prop) (Ix : Code → Nat → (Nat → Prop) → World → Prop)
    (hI : ∀ k S A B, I k S A → Upd (fun b => w.heap.size ≤ b ∧ ¬ S b) A B → I k S B)
    (hIx : ∀ c k S A B, Ix c k S A → Upd (fun b => w.heap.size ≤ b ∧ ¬ S b) A B → Ix c k S B)
    (S0 : Nat → Prop) (h0 : I 0 S0 w) (hS0 : ∀ b, S0 b → b < w.heap.size ∧ ¬ Cap b)
    (hround : ∀ k S A, k < N → I k S A → w.heap.size < A.heap.size → ¬ S w.heap.size → (∃ r, A.heap[w.heap.size]? = some (.loop r)) → (∀ b, S b → b < A.heap.size ∧ ¬ Cap b) →
      assign.wpIn (Fence.wide.inRound w.heap.size) 0 P (Exit.then (fun a1 A1 => Below A.heap.size A A1 ∧ ∀ A2, Upd (fun b => b = w.heap.size) A1 A2 → A2.heap.size = A1.heap.size → I k S A2 → (∃ r, A2.heap[w.heap.size]? = some (.loop r)) → body.wpIn (Fence.wide.inRound w.heap.size) 0 P (RoundEnd I Ix k S A A2) a1 A2) (fun _ _ _ => False))
        { tmps := (ps.zip (encs k)).foldl (fun t (p, v) => t.setIfInBounds p v) a.tmps, defers := [] } A)
    (hdone : ∀ S B, I N S B → w.heap.size < B.heap.size → Q .normal a B)
    (hstop : ∀ c k S B, k < N → Ix c k S B → w.heap.size < B.heap.size → c.wpIn (Fence.wide.inRound l0) 0 P Q a B) :
    (Code.rangeFunc g ps assign body).wpIn (Fence.wide.inRound l0) 0 P Q a w := by
  refine range_core (w0 := w0) (N := N) (Cap := Cap) (encs := encs) (Fence.wide.inRound l0) (.inr ⟨l0, rfl⟩) hg eg hit hb0 hps hcap w.heap.size r0.defers []
    (fun fn => w.alloc (.loop { state := .ready, pending := none, fn, tmps := a.tmps, params := ps, assign, body, defers := r0.defers }))
    (fun fn => run_enterLoop_inner hr0 _ _ _ _ _) (fun fn => (Below.refl _ w).alloc (Nat.le_refl _) _) (fun fn => alloc_new rfl) (Nat.le_refl _) I Ix hI hIx S0 h0 hS0
    (fun k S A hk hi h1 h2 h3 h4 h5 => hround k S A hk hi h2 h3 h4 h5) (fun fn S B hi hk hz => ?_) (fun fn c k S B hkN hi hk hz => ?_)
  · exact hdone S B hi (by simp at hz; omega)
  · exact hstop c k S B hkN hi (by simp at hz; omega)

/-- A function's contract from its body, where it holds such loops. -/
theorem calls_of_wp_marks {f : FuncId} {fn : Func} {c : Code} {args : Array Value} {w : World} {R : Ending → World → Prop} (hf : P.funcs[f]? = some fn) (hb : fn.body = some c)
    (h : c.wp P (bodyPostM Fence.wide 0 P fn R) { tmps := args ++ Array.replicate (fn.ntmps - args.size) undef, defers := [] } w) : Calls P f args w R :=
  callsIn_wide.1 (callsIn_of_wp_marks hf hb trivial (wpIn_wide.2 h))

/-- It leaves with marks alone: each one's block is shut. -/
theorem leaves_marks {fn : Func} {tmps : Array Value} {R : Ending → World → Prop} {v : Value} : ∀ (ds : List Nat) (w : World), (∀ d ∈ ds, w.heap[d]? = some (.deferred (some []))) → ds.Nodup →
    (∀ w', Upd (fun b => b ∈ ds) w w' → (results fn tmps).run P w' = .ok v w' ∧ R (.returned v) w') → LeavesInM Fence.wide 0 P fn tmps R (ds.map marked) .returning w
  | [], w, _, _, h => by
    obtain ⟨h1, h2⟩ := h w (Upd.refl _ _)
    exact ⟨v, h1, h2⟩
  | d :: ds, w, hd, hn, h => by
    have hd0 := hd d (List.mem_cons_self ..)
    obtain ⟨hn1, hn2⟩ := List.nodup_cons.1 hn
    refine ⟨by simp, .inl ⟨d, _, rfl, run_takeDeferred hd0, leaves_marks ds _ (fun b hb => ?_) hn2 (fun w' hu => h w' ?_)⟩⟩
    · rw [World.putObj_heap_other (fun e => hn1 (by rw [← e]; exact hb))]
      exact hd b (List.mem_cons_of_mem _ hb)
    · exact ((upd_put _ _ _).mono fun b _ e => by subst e; exact List.mem_cons_self ..).trans (hu.mono fun b _ hb => List.mem_cons_of_mem _ hb)
end Go.Proofs.YtkjkgpdfhmoenaaDoor.Range
