/-
  Small lemmas that all walks of this place share.
-/
import Derived.WalkKit
import Derived.WalkLawsBesides
import Derived.Lib.Hide
import Derived.Deep.QuietTactic
import Derived.BigQuiet
import Derived.StillTailTactics
import Derived.Laws.EntriesVeiled
import Derived.Lib.ConvBytes
import Derived.Deep.LoopGhost
import Derived.Deep.RegionHeld3
import Derived.Deep.DeepCutAuto
namespace Go.Proofs.YtkjkgpdfhmoenaaDoor.Kit
open Go Go.RowKit

section
variable (P : Program) (w : World) (a : Addr) (m : Mode)
@[go_sem] theorem run_store_complex (k : FloatKind) (r i : Nat) : (store a (.complex k r i) m).run P w = stored P w a (.complex k r i) m := run_store P w a _ m rfl
@[go_sem] theorem run_store_float (k : FloatKind) (r : Nat) : (store a (.float k r) m).run P w = stored P w a (.float k r) m := run_store P w a _ m rfl
@[go_sem] theorem run_store_map (r : Option Nat) : (store a (.map r) m).run P w = stored P w a (.map r) m := run_store P w a _ m rfl
@[go_sem] theorem run_store_iface (t : TypeId) (v : Value) : (store a (.iface t v) m).run P w = stored P w a (.iface t v) m := run_store P w a _ m rfl
@[go_sem] theorem run_store_nilIface : (store a .nilIface m).run P w = stored P w a .nilIface m := run_store P w a _ m rfl
end

@[go_sem] theorem wrap_zero : IntKind.i64.wrap 0 = 0 := by decide
@[go_sem] theorem wrap_one : IntKind.i64.wrap 1 = 1 := by decide
@[go_sem] theorem wrap_two : IntKind.i64.wrap 2 = 2 := by decide
@[go_sem] theorem wrap_three : IntKind.i64.wrap 3 = 3 := by decide
@[go_sem] theorem wrap_four : IntKind.i64.wrap 4 = 4 := by decide
@[go_sem] theorem wrap_five : IntKind.i64.wrap 5 = 5 := by decide

theorem flip {P : Program} {f : FuncId} {args : Array Value} {w : World} {v : Value} (h : Calls P f args w fun e w' => e = .returned v ∧ w = w') : Calls P f args w fun e w' => e = .returned v ∧ w' = w :=
  h.mono fun _ _ ⟨a, b⟩ => ⟨a, b.symm⟩

theorem ret_int {k : IntKind} {a b : Int} (h : a = b) : Ending.returned (.int k a) = .returned (.int k b) := by rw [h]

/-- A region that draws its order: reads and quiet calls, and behind them, from operation n on, what is done in the text's order. -/
theorem region_tail {P : Program} {id : Nat} {Q : Exit → Act → World → Prop} {a : Act} {w : World} {l : List Oper} (n : Nat) (hm : P.follows .mixedOrders = true) (hB : Region.lexTailB .any l.toArray n = true)
    (h : wpStill P l.toArray w.drew (fun a' => wpList P l.toArray Q (l.drop n) a' w.drew) (l.take n) a) : (Code.region id l.toArray true).wp P Q a w :=
  wp_region_still_tail n hm hB h

/-! ### Blocks -/
theorem cell_at {w : World} {b : Nat} {c : Array Value} {t : TypeId} {fr : Nat × Nat} (h : w.heap[b]? = some (.cells c t fr)) (o : Nat) : w.cell? ⟨b, o, none⟩ = c[o]? := by
  simp [World.cell?, h]
theorem free_at {w : World} {b : Nat} {c : Array Value} {t : TypeId} (h : w.heap[b]? = some (.cells c t (0, 0))) (o : Nat) : w.frozen? ⟨b, o, none⟩ = false := by
  simp [World.frozen?, h]
theorem free_all {w : World} {b : Nat} {c : Array Value} {t : TypeId} (h : w.heap[b]? = some (.cells c t (0, 0))) : ∀ o, w.frozen? ⟨b, o, none⟩ = false := fun o => free_at h o
theorem heap_set {w : World} {b : Nat} {c : Array Value} {t : TypeId} {fr : Nat × Nat} (h : w.heap[b]? = some (.cells c t fr)) (o : Nat) (v : Value) :
    (w.setCell ⟨b, o, none⟩ v).heap[b]? = some (.cells (c.setIfInBounds o v) t fr) := by
  simp only [World.setCell, Array.getElem?_modify, if_true, h, Option.map_some]
  rfl
theorem lt_of_heap {w : World} {b : Nat} {o : Obj} (h : w.heap[b]? = some o) : b < w.heap.size := (Array.getElem?_eq_some_iff.1 h).1
theorem lt_of_cell {w : World} {a : Addr} {v : Value} (h : w.cell? a = some v) : a.block < w.heap.size := by
  unfold World.cell? at h
  split at h
  · rename_i hh; exact lt_of_heap hh
  · cases h

theorem bw_cell {w : World} {e : TypeId} {s : ByteArray} {b j : Nat} (hb : b = w.heap.size) (hj : j < s.size) : (Lib.bytesWorld w e s).cell? ⟨b, j, none⟩ = some (.int .u8 (s.data.toList.getD j 0).toNat) := by
  subst hb; exact Lib.bytesWorld_cell w e s j hj
theorem bw_old {w : World} {e : TypeId} {s : ByteArray} {b : Nat} (hb : b < w.heap.size) : (Lib.bytesWorld w e s).heap[b]? = w.heap[b]? := Lib.bytesWorld_at_old w e s b hb
theorem alloc_new {w : World} {o : Obj} {k : Nat} (h : k = w.heap.size) : (w.alloc o).heap[k]? = some o := by
  subst h
  show (w.heap.push o)[w.heap.size]? = _
  simp
theorem alloc_old {w : World} {o : Obj} {k : Nat} (h : k < w.heap.size) : (w.alloc o).heap[k]? = w.heap[k]? := Below.heap_alloc w o k h

theorem byte_at {s : ByteArray} {k : Nat} (h : k < s.size) : s[k] = s.data.toList.getD k 0 := by
  have h' : k < s.data.toList.length := by simpa using h
  rw [List.getD, List.getElem?_eq_getElem h']
  rfl
theorem i64w (n : Int) (h1 : -9223372036854775808 ≤ n) (h2 : n ≤ 9223372036854775807) : IntKind.i64.wrap n = n := IntWalk.i64_in n ⟨h1, h2⟩

theorem bcell {W w1 : World} (hb : Below W.heap.size W w1) : (∀ b o, b < W.heap.size → w1.cell? ⟨b, o, none⟩ = W.cell? ⟨b, o, none⟩) ∧ (∀ b o, b < W.heap.size → w1.frozen? ⟨b, o, none⟩ = W.frozen? ⟨b, o, none⟩) :=
  ⟨fun b o h => hb.cell (p := ⟨b, o, none⟩) h, fun b o h => hb.frozen (p := ⟨b, o, none⟩) h⟩

theorem add_plain (b off i : Nat) : (⟨b, off, none⟩ : Addr).add i = ⟨b, off + i, none⟩ := by unfold Addr.add; split <;> simp_all

/-- What a walk is told of a slice of integers that came in: it is nil; or it leads to a row of cap cells, the numbers zs. -/
def IsRow (k : IntKind) (w : World) (a : Option Addr) (len cap : Nat) (zs : List Int) : Prop :=
  (a = none ∧ len = 0 ∧ cap = 0 ∧ zs = []) ∨
  ∃ x, a = some x ∧ len ≤ cap ∧ cap ≤ maxLen ∧ zs.length = cap ∧ (∀ i, i < zs.length → w.cell? (x.add i) = some (.int k (zs.getD i 0))) ∧ ∀ n ∈ zs, (Lit.int k n).wf = true

theorem IsRow.len_le {k : IntKind} {w : World} {a : Option Addr} {len cap : Nat} {zs : List Int} (h : IsRow k w a len cap zs) : len ≤ 9223372036854775807 := by
  rcases h with ⟨_, rfl, _, _⟩ | ⟨_, _, h1, h2, _⟩
  · omega
  · unfold maxLen at h2; omega

theorem IsRow.at {k : IntKind} {w : World} {a : Option Addr} {len cap : Nat} {zs : List Int} (h : IsRow k w a len cap zs) (hl : 0 < len) :
    ∃ b off, a = some ⟨b, off, none⟩ ∧ b < w.heap.size ∧ (∀ i, i < len → w.cell? ⟨b, off + i, none⟩ = some (.int k (zs.getD i 0))) ∧ ∀ i, (Lit.int k (zs.getD i 0)).wf = true ∨ len ≤ i := by
  rcases h with ⟨_, rfl, _, _⟩ | ⟨⟨b, off, spot⟩, rfl, h1, h2, h3, hc, hw⟩
  · omega
  · have h0 := hc 0 (by omega)
    have hspot : spot = none := by simpa [Addr.add] using World.cell?_spot h0
    subst hspot
    have hc' : ∀ i, i < len → w.cell? ⟨b, off + i, none⟩ = some (.int k (zs.getD i 0)) := fun i hi => by
      have := hc i (by omega)
      rwa [add_plain] at this
    refine ⟨b, off, rfl, ?_, hc', fun i => ?_⟩
    · have := hc' 0 hl
      exact lt_of_cell this
    · rcases Nat.lt_or_ge i len with hi | hi
      · left
        have hi' : i < zs.length := by omega
        rw [List.getD, List.getElem?_eq_getElem hi']
        exact hw _ (List.getElem_mem hi')
      · exact .inr hi

theorem bytes_below (w : World) (e : TypeId) (s : ByteArray) : Below w.heap.size w (Lib.bytesWorld w e s) := by
  refine ⟨?_, ?_, ?_, by rw [Lib.bytesWorld_size]; omega, fun k hk => Lib.bytesWorld_at_old w e s k hk⟩
  all_goals
    unfold Lib.bytesWorld World.freeze
    split <;> rfl

/-- w' is w but for blocks of S and new ones. -/
structure Upd (S : Nat → Prop) (w w' : World) : Prop where
  os : w'.os = w.os
  tape : w'.tape = w.tape
  output : w'.output = w.output
  size : w.heap.size ≤ w'.heap.size
  block : ∀ k, k < w.heap.size → ¬ S k → w'.heap[k]? = w.heap[k]?

theorem Upd.refl (S : Nat → Prop) (w : World) : Upd S w w := ⟨rfl, rfl, rfl, Nat.le_refl _, fun _ _ _ => rfl⟩
theorem Upd.trans {S : Nat → Prop} {a b c : World} (h : Upd S a b) (k : Upd S b c) : Upd S a c :=
  ⟨k.os.trans h.os, k.tape.trans h.tape, k.output.trans h.output, Nat.le_trans h.size k.size, fun i hi hs => (k.block i (Nat.lt_of_lt_of_le hi h.size) hs).trans (h.block i hi hs)⟩
theorem Upd.mono {S S' : Nat → Prop} {a b : World} (h : Upd S a b) (hs : ∀ k, k < a.heap.size → S k → S' k) : Upd S' a b :=
  ⟨h.os, h.tape, h.output, h.size, fun k hk hn => h.block k hk fun hS => hn (hs k hk hS)⟩
theorem Upd.of_below {S : Nat → Prop} {w w' : World} (h : Below w.heap.size w w') : Upd S w w' := ⟨h.os, h.tape, h.output, h.size, fun k hk _ => h.block k hk⟩
theorem Upd.below {S : Nat → Prop} {w w' : World} {B : Nat} (h : Upd S w w') (hB : B ≤ w.heap.size) (hs : ∀ k, k < B → ¬ S k) : Below B w w' := ⟨h.os, h.tape, h.output, h.size, fun k hk => h.block k (Nat.lt_of_lt_of_le hk hB) (hs k hk)⟩
theorem Upd.drew {S : Nat → Prop} {a w : World} (h : Upd S a w) : Upd S a w.drew := ⟨h.os, h.tape, h.output, h.size, h.block⟩
theorem Upd.later {S : Nat → Prop} {a w w' : World} (h : Upd S a w) (hb : Below w.heap.size w w') : Upd S a w' := h.trans (.of_below hb)
theorem Upd.alloc {S : Nat → Prop} {a w : World} (h : Upd S a w) (o : Obj) : Upd S a (w.alloc o) := h.later ((Below.refl _ _).alloc (Nat.le_refl _) o)
theorem Upd.setCell {S : Nat → Prop} {a w : World} (h : Upd S a w) {p : Addr} (hp : p.block < a.heap.size → S p.block) (v : Value) : Upd S a (w.setCell p v) :=
  ⟨h.os, h.tape, h.output, by simpa [World.setCell] using h.size, fun k hk hn => by
    rw [Below.heap_setCell _ _ _ _ (fun e => hn (by rw [e]; exact hp (by rw [← e]; exact hk)))]
    exact h.block k hk hn⟩
theorem Upd.cell {S : Nat → Prop} {w w' : World} (h : Upd S w w') {p : Addr} (hp : p.block < w.heap.size) (hs : ¬ S p.block) : w'.cell? p = w.cell? p := World.cell?_of_block (w := w) (h.block p.block hp hs)
theorem Upd.frozen {S : Nat → Prop} {w w' : World} (h : Upd S w w') {p : Addr} (hp : p.block < w.heap.size) (hs : ¬ S p.block) : w'.frozen? p = w.frozen? p := World.frozen?_of_block (w := w) (h.block p.block hp hs)

/-! ### A region that draws its order, whose operations but the last ones only read, and whose callees make memory but change none -/
section
variable {P : Program} {ops : Array Oper} {md : Region.Mode} {C : World → Prop}

def anyLQ (P : Program) (md : Region.Mode) (ops : Array Oper) (C : World → Prop) (n : Nat) (L : Array Bool → Act → Prop) : Nat → Array Bool → Act → Prop
  | 0, listed, a => L listed a
  | f + 1, listed, a =>
    Region.ready md ops listed ≠ [] ∧ ∀ i ∈ Region.ready md ops listed, i < n ∧ qOp P ops C i (anyLQ P md ops C n L f (listed.setIfInBounds i true)) a

theorem any_of_headQ {n g : Nat} {L : Array Bool → Act → Prop} {Q' : Exit → Act → World → Prop} (hL : ∀ listed a w, C w → L listed a → wpAny P md ops Q' g listed a w) :
    ∀ (f : Nat) (listed : Array Bool) (a : Act) (w : World), C w → anyLQ P md ops C n L f listed a → wpAny P md ops Q' (f + g) listed a w
  | 0, listed, a, w, hw, h => by rw [Nat.zero_add]; exact hL _ _ _ hw h
  | f + 1, listed, a, w, hw, h => by
    rw [show f + 1 + g = (f + g) + 1 by omega]
    exact ⟨fun h0 => absurd h0 h.1, fun i hi => wpOp_of_qOp hw (fun a' w' hw' h' => any_of_headQ hL f _ a' w' hw' h') (h.2 i hi).2⟩

theorem anyLQ_first {n i : Nat} {oi : Oper} {v : Value} {L : Array Bool → Act → Prop} (hi : ops[i]? = some oi) (hsel : ∀ (j : Nat) (o : Oper) cs b, ops[j]? = some o → o.op ≠ .select cs b)
    (hs : Region.sinkB md ops n = true) (hc : Region.chainB md ops n = true) (hn : n < ops.size) (hin : i < n)
    (hdone : ∀ listed a, L listed a → ∀ j ∈ Region.ready md ops listed, n ≤ j) :
    ∀ (f : Nat) (listed : Array Bool) (a : Act), HeadInv md ops n listed →
      (∀ j oj, ops[j]? = some oj → j ≠ i → listed.getD j true = false → (∀ e ∈ oj.after, Region.binds md e = true → e.on ≠ i) → oi.apart ops oj = true) →
      i ∈ Region.ready md ops listed → YieldsIn P ops C oi v a →
      anyLQ P md ops C n L f (listed.setIfInBounds i true) (a.put oi.dst v) → anyLQ P md ops C n L (f + 1) listed a := by
  intro f
  induction f with
  | zero =>
    intro listed a inv _ hr hy H
    have hun := (mem_ready.1 hr).1
    refine ⟨fun h => (by rw [h] at hr; cases hr), fun j hj => ?_⟩
    have hjn : j < n := by
      rcases Nat.lt_or_ge j n with h | h
      · exact h
      · exact absurd hj (tail_waits hs hc hn inv _ i rfl hin hun j h)
    refine ⟨hjn, ?_⟩
    by_cases hji : j = i
    · subst hji; exact hy.qOp hi H
    · have := hdone _ _ H j (ready_mono hj hji)
      omega
  | succ f ih =>
    intro listed a inv hfree hr hy H
    have hun := (mem_ready.1 hr).1
    refine ⟨fun h => (by rw [h] at hr; cases hr), fun j hj => ?_⟩
    have hjn : j < n := by
      rcases Nat.lt_or_ge j n with h | h
      · exact h
      · exact absurd hj (tail_waits hs hc hn inv _ i rfl hin hun j h)
    refine ⟨hjn, ?_⟩
    by_cases hji : j = i
    · subst hji; exact hy.qOp hi H
    · have h1 := (H.2 j (ready_mono hj hji)).2
      obtain ⟨hjun, oj, hoj, hall⟩ := mem_ready.1 hj
      have hnot : ∀ e ∈ oj.after, Region.binds md e = true → e.on ≠ i := fun e he hb heq => by
        have h1 := hall e he hb
        rw [heq, getD_both hun] at h1
        cases h1
      have h2 := qOp_put hoj (hfree j oj hoj hji hjun hnot) (fun cs b => hsel i oi cs b hi) (fun cs b => hsel j oj cs b hoj) hy h1
      have hfree' : ∀ k ok, ops[k]? = some ok → k ≠ i → (listed.setIfInBounds j true).getD k true = false →
          (∀ e ∈ ok.after, Region.binds md e = true → e.on ≠ i) → oi.apart ops ok = true := fun k ok hk hki hun hno => by
        refine hfree k ok hk hki ?_ hno
        by_cases hjk : j = k
        · subst hjk; exact hjun
        · rw [getD_set_ne true hjk] at hun; exact hun
      refine qOp_mono (fun a' h3 => ih (listed.setIfInBounds j true) a' (inv.set hj hjn) hfree' (ready_mono hr (Ne.symm hji)) h3.1 ?_) h2
      rw [Array.setIfInBounds_comm _ _ hji]
      exact h3.2

theorem anyLQ_lex {n g : Nat} {Lq : Act → Prop} (hsel : Region.noSelect ops = true) (hs : Region.sinkB md ops n = true) (hc : Region.chainB md ops n = true) (hn : n < ops.size) :
    ∀ (l : List Oper) (k : Nat) (listed : Array Bool) (a : Act), (∀ j, j < l.length → l[j]? = ops[k + j]?) → k + l.length = n → HeadInv md ops n listed →
    Region.lexHead md ops g l.length k listed = true → wpQuiet P ops C Lq l a →
    anyLQ P md ops C n (fun listed' a' => Region.seqB md ops g n listed' = true ∧ Lq a') l.length listed a
  | [], k, listed, a, _, hk, _, hB, h => by
    have : k = n := by simpa using hk
    subst this
    exact ⟨by simpa [Region.lexHead] using hB, h⟩
  | o :: l, k, listed, a, hl, hk, inv, hB, h => by
    have h0 : ops[k]? = some o := by simpa using (hl 0 (by simp)).symm
    simp only [List.length_cons, Region.lexHead, Bool.and_eq_true] at hB
    obtain ⟨⟨hr, hf⟩, hB'⟩ := hB
    have hkn : k < n := by simp only [List.length_cons] at hk; omega
    have hr' : k ∈ Region.ready md ops listed := by simpa using hr
    have hst : qOp P ops C k (wpQuiet P ops C Lq l) a := by unfold qOp; simp only [h0]; exact h
    obtain ⟨v, hy, hK⟩ := yieldsIn_of_qOp h0 hst
    exact anyLQ_first h0 (Region.noSelect_spec hsel) hs hc hn hkn (fun listed' a' hL => seqB_ready hL.1) l.length listed a inv (Region.free_spec h0 hf) hr' hy
      (anyLQ_lex hsel hs hc hn l (k + 1) _ _ (fun j hj => by have := hl (j + 1) (by simp; omega); simpa [Nat.add_assoc, Nat.add_comm 1 j] using this) (by simp only [List.length_cons] at hk; omega) (inv.set hr' hkn) hB' hK)
end

/-- A world in which all that lay in W lies as it lay. -/
structure Later (W : World) where
  w : World
  h : Below W.heap.size W w

instance (W : World) : Nonempty (Later W) := ⟨⟨W, Below.refl _ _⟩⟩

@[go_sem] theorem Later.cell {W : World} (x : Later W) {b o : Nat} (h : b < W.heap.size) : x.w.cell? ⟨b, o, none⟩ = W.cell? ⟨b, o, none⟩ := x.h.cell (p := ⟨b, o, none⟩) h

@[go_sem] theorem Later.cell_drew {W : World} (x : Later W.drew) {b o : Nat} (h : b < W.heap.size) : x.w.cell? ⟨b, o, none⟩ = W.cell? ⟨b, o, none⟩ := x.h.cell (p := ⟨b, o, none⟩) h
@[go_sem] theorem Later.frozen_drew {W : World} (x : Later W.drew) {b o : Nat} (h : b < W.heap.size) : x.w.frozen? ⟨b, o, none⟩ = W.frozen? ⟨b, o, none⟩ := x.h.frozen (p := ⟨b, o, none⟩) h
@[go_sem] theorem Later.frozen {W : World} (x : Later W) {b o : Nat} (h : b < W.heap.size) : x.w.frozen? ⟨b, o, none⟩ = W.frozen? ⟨b, o, none⟩ := x.h.frozen (p := ⟨b, o, none⟩) h
theorem Later.heap {W : World} (x : Later W) {b : Nat} (h : b < W.heap.size) : x.w.heap[b]? = W.heap[b]? := x.h.block b h

theorem Later.heap_alloc {W : World} (x : Later W) {b : Nat} {o : Obj} (h : b < W.heap.size) : (x.w.alloc o).heap[b]? = W.heap[b]? := by
  rw [alloc_old (Nat.lt_of_lt_of_le h x.h.size), x.heap h]
theorem Later.le {W : World} (x : Later W) : W.heap.size ≤ x.w.heap.size := x.h.size

/-- A region that draws its order: reads and calls that change nothing that lay there, and behind them, from operation n on, what is done in the text's order. -/
theorem region_later {P : Program} {id : Nat} {Q : Exit → Act → World → Prop} {a : Act} {W : World} {l : List Oper} (n : Nat) (hm : P.follows .mixedOrders = true) (hB : Region.lexTailB .any l.toArray n = true)
    (h : wpQuiet P l.toArray (fun w' => ∃ x : Later W, w' = x.w) (fun a' => ∀ x : Later W, wpList P l.toArray Q (l.drop n) a' x.w) (l.take n) a) : (Code.region id l.toArray true).wp P Q a W := by
  simp only [Region.lexTailB, Bool.and_eq_true, decide_eq_true_eq] at hB
  obtain ⟨⟨⟨⟨hsel, hn⟩, hs⟩, hc⟩, hlex⟩ := hB
  have hn' : n < l.length := by simpa using hn
  have htl : (l.take n).length = n := by simp; omega
  have hdl : (l.drop n).length = l.toArray.size - n := by simp
  have inv0 : HeadInv .any l.toArray n (Array.replicate l.toArray.size false) :=
    ⟨by simp, fun j oj _ hl => (by rw [getD_replicate_false] at hl; cases hl), fun t _ ht => getD_in (by simpa using ht) (getD_replicate_false _ _)⟩
  have H := anyLQ_lex (md := .any) (g := l.toArray.size - n) hsel hs hc hn (l.take n) 0 _ a (fun j hj => by
    have hj' : j < n := by rw [htl] at hj; exact hj
    simp [hj']) (by simpa using htl) inv0 (by rw [htl]; exact hlex) h
  refine wp_region_any hm ?_
  rw [show l.toArray.size = n + (l.toArray.size - n) by omega]
  rw [htl] at H
  refine any_of_headQ (C := fun w' => ∃ x : Later W, w' = x.w) (fun listed a' w' hw' hL => ?_) n _ a _ ⟨⟨_, (Below.refl _ _).drew⟩, rfl⟩ (by simpa [show n + (l.length - n) = l.length by omega] using H)
  obtain ⟨x, rfl⟩ := hw'
  have := wpAny_of_seq (P := P) (md := .any) (Q' := Q) (l.drop n) n listed a' x.w (fun j => by simp) (by rw [hdl]; exact hL.1) (hL.2 x)
  rwa [hdl] at this

/-- The same for a region that has no such last operations. -/
theorem region_calm {P : Program} {id : Nat} {Q : Exit → Act → World → Prop} {a : Act} {W : World} {l : List Oper} (hm : P.follows .mixedOrders = true) (hB : Region.lexB .any l.toArray = true)
    (h : wpQuiet P l.toArray (fun w' => ∃ x : Later W, w' = x.w) (fun a' => ∀ w', (∃ x : Later W, w' = x.w) → Q .normal a' w') l a) : (Code.region id l.toArray true).wp P Q a W :=
  wp_region_quiet (C := fun w' => ∃ x : Later W, w' = x.w) hm hB ⟨⟨_, (Below.refl _ _).drew⟩, rfl⟩ (by simpa using h)

theorem chain {a b c : World} (h : Below a.heap.size a b) (k : Below b.heap.size b c) : Below a.heap.size a c := h.trans (k.mono h.size)
theorem Later.chain {a b : World} (h : Below a.heap.size a b) (x : Later b) : Below a.heap.size a x.w := h.trans (x.h.mono h.size)

/-! ### Words for 'go_region_held3': the condition is 'Below W.heap.size W w' and what some cells of W hold -/
theorem keep_start {W : World} : Below W.heap.size W W.drew := (Below.refl _ _).drew
theorem keep_call {W a b : World} {p : Prop} (h : Below W.heap.size W a ∧ p) (k : Below a.heap.size a b) : Below W.heap.size W b := Kit.chain h.1 k
theorem keep_alloc {W a : World} {o : Obj} {p : Prop} (h : Below W.heap.size W a ∧ p) : Below W.heap.size W (a.alloc o) := h.1.alloc h.1.size o
theorem held1 {W w' : World} {b : Nat} {v0 : Value} (hz : b < W.heap.size) (c0 : W.cell? ⟨b, 0, none⟩ = some v0) (h : Below W.heap.size W w') :
    Below W.heap.size W w' ∧ w'.cell? ⟨b, 0, none⟩ = some v0 := ⟨h, by rw [h.cell hz]; exact c0⟩
theorem held2 {W w' : World} {b : Nat} {v0 v1 : Value} (hz : b < W.heap.size) (c0 : W.cell? ⟨b, 0, none⟩ = some v0) (c1 : W.cell? ⟨b, 1, none⟩ = some v1) (h : Below W.heap.size W w') :
    Below W.heap.size W w' ∧ w'.cell? ⟨b, 0, none⟩ = some v0 ∧ w'.cell? ⟨b, 1, none⟩ = some v1 := ⟨h, by rw [h.cell hz]; exact c0, by rw [h.cell hz]; exact c1⟩
theorem held3 {W w' : World} {b : Nat} {v0 v1 v2 : Value} (hz : b < W.heap.size) (c0 : W.cell? ⟨b, 0, none⟩ = some v0) (c1 : W.cell? ⟨b, 1, none⟩ = some v1) (c2 : W.cell? ⟨b, 2, none⟩ = some v2) (h : Below W.heap.size W w') :
    Below W.heap.size W w' ∧ w'.cell? ⟨b, 0, none⟩ = some v0 ∧ w'.cell? ⟨b, 1, none⟩ = some v1 ∧ w'.cell? ⟨b, 2, none⟩ = some v2 := ⟨h, by rw [h.cell hz]; exact c0, by rw [h.cell hz]; exact c1, by rw [h.cell hz]; exact c2⟩

theorem later_call {P : Program} {f : FuncId} {args : Array Value} {W : World} {x : Later W} {v : Value}
    (h : Calls P f args x.w fun e w' => e = .returned v ∧ Below x.w.heap.size x.w w') : Calls P f args x.w fun e w'' => e = .returned v ∧ ∃ y : Later W, w'' = y.w :=
  h.mono fun _ _ ⟨he, hb⟩ => ⟨he, ⟨_, x.h.trans (hb.mono x.h.size)⟩, rfl⟩

theorem later_same {P : Program} {f : FuncId} {args : Array Value} {W : World} {x : Later W} {v : Value}
    (h : Calls P f args x.w fun e w' => e = .returned v ∧ x.w = w') : Calls P f args x.w fun e w'' => e = .returned v ∧ ∃ y : Later W, w'' = y.w :=
  h.mono fun _ _ ⟨he, hb⟩ => ⟨he, x, hb.symm⟩

/-! ### A region that draws its order, op by op: what only reads is taken first; behind what makes memory all that lay there lies as it lay -/
section
variable {P : Program} {ops : Array Oper} {R : Act → World → Prop}

/-- The region ends as it should: no panic, no jump. -/
def OnlyNormal (R : Act → World → Prop) : Exit → Act → World → Prop
  | .normal, a, w => R a w
  | _, _, _ => False

theorem anyH_mono {Q : Exit → Act → World → Prop} {S S' : World → Prop} (hS : ∀ w, S' w → S w) : ∀ (n : Nat) (listed : Array Bool) (a : Act) (w : World), wpAnyH P .any ops Q S' n listed a w → wpAnyH P .any ops Q S n listed a w
  | 0, _, _, _, h => h
  | n + 1, _, _, _, h => ⟨h.1, fun i hi => wpOp_mono (fun a' w' h' => ⟨hS _ h'.1, anyH_mono hS n _ a' w' h'.2⟩) (h.2 i hi)⟩

/-- What is left of the region, from world w on: all that lay in B lies as it lay. -/
def RG (P : Program) (ops : Array Oper) (R : Act → World → Prop) (B : World) (n : Nat) (listed : Array Bool) (a : Act) (w : World) : Prop :=
  Below B.heap.size B w → wpAnyH P .any ops (OnlyNormal R) (Below B.heap.size B) n listed a w

theorem RG_begin {Q : Exit → Act → World → Prop} {id : Nat} {a : Act} {w : World} {l : List Oper} (n : Nat) (listed : Array Bool) (hn : l.length = n) (hl : Array.replicate n false = listed) (hm : P.follows .mixedOrders = true)
    (h : ∀ R : Act → World → Prop, (∀ a w, Q .normal a w → R a w) → Below w.heap.size w w.drew → RG P l.toArray R w n listed a w.drew) : (Code.region id l.toArray true).wp P Q a w := by
  refine Code.wp_mono (Q := OnlyNormal (Q .normal)) (fun e a w hq => by cases e <;> first | exact hq | exact hq.elim) ?_
  refine wp_region_held (S := Below w.heap.size w) hm ?_
  have hd : Below w.heap.size w w.drew := (Below.refl _ _).drew
  have h' := h _ (fun _ _ h => h) hd hd
  subst hn
  subst hl
  simpa using h'

/-- From now on all that lies in w is kept. -/
theorem RG_rebase {B : World} {n : Nat} {listed : Array Bool} {a : Act} {w : World} (h : RG P ops R w n listed a w) : RG P ops R B n listed a w := fun hb =>
  anyH_mono (fun _ h => hb.trans (h.mono hb.size)) n _ a w (h (Below.refl _ _))

theorem RG_take {B : World} {i : Nat} {oi : Oper} {v : Value} {n : Nat} {listed : Array Bool} (d : Option Tmp) (listed' : Array Bool) {a : Act} {w : World} (hi : ops[i]? = some oi) (hd : oi.dst = d)
    (hs : Region.noSelect ops = true) (hf : Region.free .any ops listed i = true) (hr : (Region.ready .any ops listed).contains i = true) (hl : listed.setIfInBounds i true = listed')
    (hw : Region.wanted oi (yielded ops a.tmps) = true) (hy : ∀ x : Later B, (execOp a.eval oi).run P x.w = .ok (.value v) x.w)
    (h : RG P ops R B n listed' (a.put d v) w) : RG P ops R B (n + 1) listed a w := by
  subst hl
  subst hd
  exact fun hb => wpAnyH_take hi hs hf hr (fun _ _ _ h => h) (.inl ⟨hw, fun w' hb => hy ⟨w', hb⟩⟩) hb (h hb)

theorem RG_skip {B : World} {i : Nat} {oi : Oper} {n : Nat} {listed : Array Bool} (d : Option Tmp) (listed' : Array Bool) {a : Act} {w : World} (hi : ops[i]? = some oi) (hd : oi.dst = d)
    (hs : Region.noSelect ops = true) (hf : Region.free .any ops listed i = true) (hr : (Region.ready .any ops listed).contains i = true) (hl : listed.setIfInBounds i true = listed')
    (hw : Region.wanted oi (yielded ops a.tmps) = false)
    (h : RG P ops R B n listed' (a.put d undef) w) : RG P ops R B (n + 1) listed a w := by
  subst hl
  subst hd
  exact fun hb => wpAnyH_take hi hs hf hr (fun _ _ _ h => h) (.inr ⟨hw, rfl⟩) hb (h hb)

theorem RG_op {B : World} {i : Nat} {oi : Oper} {n : Nat} {listed : Array Bool} (listed' : Array Bool) {a : Act} {w : World} (hi : ops[i]? = some oi) (hl : listed.setIfInBounds i true = listed') (hw : Region.wanted oi (yielded ops a.tmps) = true)
    (h : ∀ K : Act → World → Prop, (∀ a' w', Below B.heap.size B w' → RG P ops R B n listed' a' w' → K a' w') → oi.wp P a w K (OnlyNormal R)) :
    wpOp P ops (OnlyNormal R) i (fun a' w' => Below B.heap.size B w' ∧ wpAnyH P .any ops (OnlyNormal R) (Below B.heap.size B) n (listed.setIfInBounds i true) a' w') a w := by
  subst hl
  unfold wpOp
  simp only [hi, hw, if_true]
  exact .inl (h _ fun a' w' hb hR => ⟨hb, hR hb⟩)

/-- One operation alone may come up. -/
theorem RG_one {B : World} {i : Nat} {oi : Oper} {n : Nat} {listed : Array Bool} (listed' : Array Bool) {a : Act} {w : World} (hi : ops[i]? = some oi) (hr : Region.ready .any ops listed = [i]) (hl : listed.setIfInBounds i true = listed') (hw : Region.wanted oi (yielded ops a.tmps) = true)
    (h : ∀ K : Act → World → Prop, (∀ a' w', Below B.heap.size B w' → RG P ops R B n listed' a' w' → K a' w') → oi.wp P a w K (OnlyNormal R)) :
    RG P ops R B (n + 1) listed a w := fun _ =>
  wpAnyH_all hr (by simp) fun j hj => by
    obtain rfl : j = i := by simpa using hj
    exact RG_op listed' hi hl hw h

/-- Two may. -/
theorem RG_two {B : World} {i j : Nat} {oi oj : Oper} {n : Nat} {listed : Array Bool} (li lj : Array Bool) {a : Act} {w : World} (hr : Region.ready .any ops listed = [i, j])
    (hi : ops[i]? = some oi) (hli : listed.setIfInBounds i true = li) (hwi : Region.wanted oi (yielded ops a.tmps) = true)
    (hj : ops[j]? = some oj) (hlj : listed.setIfInBounds j true = lj) (hwj : Region.wanted oj (yielded ops a.tmps) = true)
    (h1 : ∀ K : Act → World → Prop, (∀ a' w', Below B.heap.size B w' → RG P ops R B n li a' w' → K a' w') → oi.wp P a w K (OnlyNormal R))
    (h2 : ∀ K : Act → World → Prop, (∀ a' w', Below B.heap.size B w' → RG P ops R B n lj a' w' → K a' w') → oj.wp P a w K (OnlyNormal R)) :
    RG P ops R B (n + 1) listed a w := fun _ =>
  wpAnyH_all hr (by simp) fun k hk => by
    rcases (by simpa using hk : k = i ∨ k = j) with rfl | rfl
    · exact RG_op li hi hli hwi h1
    · exact RG_op lj hj hlj hwj h2

/-- Behind an operation that changes nothing that lay there; then all that lies there now is kept. -/
theorem RG_step {n : Nat} {listed : Array Bool} {a' : Act} {W B w w' : World} {K : Act → World → Prop} (hK : ∀ a' w', Below B.heap.size B w' → RG P ops R B n listed a' w' → K a' w') (hB : Below B.heap.size B w) (hacc : Below W.heap.size W w)
    (hb : Below w.heap.size w w') (h : Below W.heap.size W w' → RG P ops R w' n listed a' w') : K a' w' := hK _ _ (chain hB hb) (RG_rebase (h (chain hacc hb)))

/-- Behind an operation that changes nothing that lay in B. -/
theorem RG_keep {n : Nat} {listed : Array Bool} {a' : Act} {B w' : World} {K : Act → World → Prop} (hK : ∀ a' w', Below B.heap.size B w' → RG P ops R B n listed a' w' → K a' w')
    (hb : Below B.heap.size B w') (h : Below B.heap.size B w' → RG P ops R B n listed a' w') : K a' w' := hK _ _ hb (h hb)

theorem RG_done {B : World} {listed : Array Bool} {a : Act} {w : World} {n : Nat} (hr : Region.ready .any ops listed = []) (h : R a w) : RG P ops R B n listed a w :=
  fun _ => wpAnyH_done hr h n
end

theorem new_in {a b : World} {o : Obj} (h : Below (a.alloc o).heap.size (a.alloc o) b) : b.heap[a.heap.size]? = some o ∧ a.heap.size < b.heap.size := by
  refine ⟨by rw [h.block _ (by simp), alloc_new rfl], ?_⟩
  have := h.size
  simp at this
  omega
theorem new_in' {a b : World} {o : Obj} (h : Below (a.alloc o).drew.heap.size (a.alloc o).drew b) : b.heap[a.heap.size]? = some o ∧ a.heap.size < b.heap.size :=
  new_in (a := a) (o := o) ⟨h.os, h.tape, h.output, h.size, h.block⟩
theorem old_in {a b : World} {n : Nat} {o : Obj} (h : a.heap[n]? = some o ∧ n < a.heap.size) (hb : Below a.heap.size a b) : b.heap[n]? = some o ∧ n < b.heap.size :=
  ⟨by rw [hb.block _ h.2]; exact h.1, Nat.lt_of_lt_of_le h.2 hb.size⟩

end Go.Proofs.YtkjkgpdfhmoenaaDoor.Kit
