/-
  bpe.work: step.
-/
import Derived.Test.YtkjkgpdfhmoenaaDoorBpeBegin
import Derived.Test.YtkjkgpdfhmoenaaDoorHeapOut
import Derived.Test.YtkjkgpdfhmoenaaDoorChain
namespace Go.Proofs.YtkjkgpdfhmoenaaDoor.BpeGo
open Go Go.RowKit Go.Proofs.YtkjkgpdfhmoenaaDoor.Kit Go.Proofs.YtkjkgpdfhmoenaaDoor.Range Go.Proofs.YtkjkgpdfhmoenaaDoor.Round Go.Proofs.YtkjkgpdfhmoenaaDoor.Seg Go.Proofs.YtkjkgpdfhmoenaaDoor.Collect Go.Proofs.YtkjkgpdfhmoenaaDoor.Dt Go.Proofs.YtkjkgpdfhmoenaaDoor.MoNew Go.Proofs.YtkjkgpdfhmoenaaDoor.ChainLaw Go.Proofs.YtkjkgpdfhmoenaaDoor.BpeLaw Go.Proofs.YtkjkgpdfhmoenaaDoor.EncLaw Go.Proofs.YtkjkgpdfhmoenaaDoor.Chain Go.Proofs.YtkjkgpdfhmoenaaDoor.Heap Go.Proofs.YtkjkgpdfhmoenaaDoor.BpeMg
attribute [local irreducible] wpQuiet wpStill
set_option linter.unusedSimpArgs false

/-- What step leaves. -/
def Stepped (D : Dt) (mb n base : Nat) (P : Wp) (ids : Nat → Int) (L : List Nat) (w : World) (e : Ending) (w' : World) : Prop :=
  (nxt (mg D) (L.map ids) = none ∧ (∃ x : Pr, e = .returned (.tuple #[prV x, .bool false])) ∧ (∃ v H, Work w' base mb n P ids L v H) ∧ Below base w w') ∨
  (∃ r q id ids' L' v' H', nxt (mg D) (L.map ids) = some (r, q, id) ∧ put (L.map ids) q id = L'.map ids' ∧ (∃ x : Pr, e = .returned (.tuple #[prV x, .bool true])) ∧ Work w' base mb n P ids' L' v' H' ∧ Inv (mg D) n ids' L' H' ∧ H'.length + L'.length * 2 ≤ n * 3 ∧ L'.length < L.length ∧ Below base w w')

/-- A box of the call's own was written. -/
theorem Work.box {w w' : World} {base mb n rb : Nat} {P : Wp} {ids : Nat → Int} {L : List Nat} {v : Value} {H : List Pr} {cs : Array Value} {fr : Nat × Nat} (h : Work w base mb n P ids L v H) (hu : Upd (fun b => b = rb) w w') (hr : w.heap[rb]? = some (.cells cs 183 fr)) (hn : ¬ v.ownBlock = some rb) : Work w' base mb n P ids L v H := by
  have key : ∀ (b : Nat) (c : Array Value) (t : TypeId) (f : Nat × Nat), w.heap[b]? = some (.cells c t f) → t ≠ 183 → w'.heap[b]? = w.heap[b]? := fun b c t f hb h1 => hu.block b (lt_of_heap hb) (fun e => by
    rw [e, hr] at hb
    simp only [Option.some.injEq, Obj.cells.injEq] at hb
    exact h1 hb.2.1.symm)
  have ki : ∀ (g o m : Nat) (f : Nat → Int), IR w g o m f → w'.heap[g]? = w.heap[g]? := fun g o m f hi => by
    obtain ⟨cur, hc, _⟩ := hi
    exact key g cur _ _ hc (by decide)
  refine ⟨(key _ _ _ _ h.c (by decide)).trans h.c, h.i.keep (ki _ _ _ _ h.i), h.ch.keep fun b hb _ => ?_, h.h.keep hu.size fun b hb hl => ?_, h.hp, h.d, h.lo⟩
  · rcases hb with rfl | rfl | rfl
    · exact key _ _ _ _ h.ch.c (by decide)
    · exact ki _ _ _ _ h.ch.n1
    · exact ki _ _ _ _ h.ch.n2
  · rcases hb with rfl | hb
    · exact key _ _ _ _ h.h.c (by decide)
    · exact hu.block b hl (fun e => hn (e ▸ hb))
/-- Where the chain lies. -/
theorem cb_type {w : World} {cb n : Nat} {p : Cp} {L : List Nat} (h : Chn w cb p n L) {b : Nat} (hb : Cb cb p b) : ∃ cs t fr, w.heap[b]? = some (.cells cs t fr) ∧ (t = 215 ∨ t = 3) := by
  rcases hb with rfl | rfl | rfl
  · exact ⟨_, _, _, h.c, .inl rfl⟩
  · obtain ⟨cur, hc, _⟩ := h.n1
    exact ⟨_, _, _, hc, .inr rfl⟩
  · obtain ⟨cur, hc, _⟩ := h.n2
    exact ⟨_, _, _, hc, .inr rfl⟩
theorem hb_type {w : World} {base hb : Nat} {v : Value} {H : List Pr} (h : HeapAt w base hb v H) {b : Nat} {cs : Array Value} {t : TypeId} {fr : Nat × Nat} (hb' : w.heap[b]? = some (.cells cs t fr)) (ht : t = 215 ∨ t = 3 ∨ t = 201) : ¬ Hb hb v b := by
  refine own_pair h hb' ?_ ?_ <;> rcases ht with rfl | rfl | rfl <;> decide
/-- An id was written. -/
theorem Work.id {w : World} {base mb n : Nat} {P : Wp} {ids : Nat → Int} {L : List Nat} {v : Value} {H : List Pr} (h : Work w base mb n P ids L v H) {i : Nat} (hi : i < n) (x : Int) : Work (w.setCell ⟨P.gi, P.oi + i, none⟩ (.int .i64 x)) base mb n P (ups ids i x) L v H := by
  have hu : Upd (fun b => b = P.gi) w (w.setCell ⟨P.gi, P.oi + i, none⟩ (.int .i64 x)) := Upd.setCell (S := fun b => b = P.gi) (p := ⟨P.gi, P.oi + i, none⟩) (Upd.refl _ _) (fun _ => rfl) _
  have hd := h.d
  have hii := h.i
  refine ⟨(hu.block _ (lt_of_heap h.c) (h.i.ne h.c (by decide))).trans h.c, h.i.set hi x, h.ch.upd hu ?_, h.h.upd hu ?_, h.hp, h.d, h.lo⟩
  · rintro b (rfl | rfl | rfl)
    · exact h.i.ne h.ch.c (by decide)
    · exact Ne.symm hd.1
    · exact Ne.symm hd.2
  · rintro b hb rfl
    obtain ⟨cur, hc, _⟩ := hii
    exact hb_type h.h hc (.inr (.inl rfl)) hb
/-- Only the chain was changed. -/
theorem Work.chn {w w' : World} {base mb n : Nat} {P : Wp} {ids : Nat → Int} {L L' : List Nat} {v : Value} {H : List Pr} (h : Work w base mb n P ids L v H) (hu : Upd (Cb P.cb P.p) w w') (hc : Chn w' P.cb P.p n L') : Work w' base mb n P ids L' v H := by
  have hd := h.d
  have hii := h.i
  refine ⟨(hu.block _ (lt_of_heap h.c) ?_).trans h.c, h.i.keep (hu.block _ h.i.lt ?_), hc, h.h.upd hu ?_, h.hp, h.d, h.lo⟩
  · intro hb
    obtain ⟨cs, t, fr, h1, h2⟩ := cb_type h.ch hb
    rw [h.c] at h1
    simp only [Option.some.injEq, Obj.cells.injEq] at h1
    rw [← h1.2.1] at h2
    exact absurd h2 (by decide)
  · rintro (e | e | e)
    · exact h.i.ne h.ch.c (by decide) e.symm
    · exact hd.1 e
    · exact hd.2 e
  · intro b hb hcb
    obtain ⟨cs, t, fr, h1, h2⟩ := cb_type h.ch hcb
    exact hb_type h.h h1 (h2.elim .inl (fun e => .inr (.inl e))) hb

/-- The call on its way: what it works at, the box of its answer, the pair it does. -/
structure Stg (w0 w : World) (base mb n rb xb : Nat) (P : Wp) (x : Pr) (ids : Nat → Int) (L : List Nat) (v : Value) (H : List Pr) : Prop where
  k : Work w base mb n P ids L v H
  r : w.heap[rb]? = some (.cells #[.int .i64 0, .int .i64 0, .int .i64 0, .int .i64 0, .int .i64 0, .int .i64 0] 183 (0, 0))
  x : w.heap[xb]? = some (.cells #[.int .i64 x.rank, .int .i64 x.left, .int .i64 x.right, .int .i64 x.a, .int .i64 x.b, .int .i64 x.id] 183 (0, 0))
  nr : ¬ v.ownBlock = some rb
  nx : ¬ v.ownBlock = some xb
  b : Below base w0 w
section
variable {w0 w w' : World} {base mb n rb xb : Nat} {P : Wp} {x : Pr} {ids : Nat → Int} {L L' : List Nat} {v v' : Value} {H H' : List Pr}
theorem Stg.below (h : Stg w0 w base mb n rb xb P x ids L v H) (hb : Below w.heap.size w w') (hl : base ≤ w0.heap.size) : Stg w0 w' base mb n rb xb P x ids L v H :=
  ⟨h.k.below hb, (hb.block _ (lt_of_heap h.r)).trans h.r, (hb.block _ (lt_of_heap h.x)).trans h.x, h.nr, h.nx, h.b.trans (hb.mono (Nat.le_trans hl h.b.size))⟩
theorem pair_ne {cs : Array Value} {b g : Nat} {fr : Nat × Nat} {cs' : Array Value} {t : TypeId} {fr' : Nat × Nat} (h : w.heap[b]? = some (.cells cs 183 fr)) (h' : w.heap[g]? = some (.cells cs' t fr')) (ht : t ≠ 183) : b ≠ g := by
  rintro rfl
  rw [h] at h'
  simp only [Option.some.injEq, Obj.cells.injEq] at h'
  exact ht h'.2.1.symm
theorem pair_cb (h : Chn w P.cb P.p n L) {cs : Array Value} {b : Nat} {fr : Nat × Nat} (hb : w.heap[b]? = some (.cells cs 183 fr)) : ¬ Cb P.cb P.p b := fun hc => by
  obtain ⟨cs', t, fr', h1, h2⟩ := cb_type h hc
  exact pair_ne hb h1 (by rcases h2 with rfl | rfl <;> decide) rfl
theorem Stg.id (h : Stg w0 w base mb n rb xb P x ids L v H) {i : Nat} (hi : i < n) (z : Int) : Stg w0 (w.setCell ⟨P.gi, P.oi + i, none⟩ (.int .i64 z)) base mb n rb xb P x (ups ids i z) L v H := by
  have hu : Upd (fun b => b = P.gi) w (w.setCell ⟨P.gi, P.oi + i, none⟩ (.int .i64 z)) := Upd.setCell (S := fun b => b = P.gi) (p := ⟨P.gi, P.oi + i, none⟩) (Upd.refl _ _) (fun _ => rfl) _
  obtain ⟨cur, hc, _⟩ := h.k.i
  exact ⟨h.k.id hi z, (hu.block _ (lt_of_heap h.r) (pair_ne h.r hc (by decide))).trans h.r, (hu.block _ (lt_of_heap h.x) (pair_ne h.x hc (by decide))).trans h.x, h.nr, h.nx, h.b.setCell h.k.lo.2.1 _⟩
theorem Stg.chn (h : Stg w0 w base mb n rb xb P x ids L v H) (hl : base ≤ w0.heap.size) (hu : Upd (Cb P.cb P.p) w w') (hc : Chn w' P.cb P.p n L') : Stg w0 w' base mb n rb xb P x ids L' v H :=
  ⟨h.k.chn hu hc, (hu.block _ (lt_of_heap h.r) (pair_cb h.k.ch h.r)).trans h.r, (hu.block _ (lt_of_heap h.x) (pair_cb h.k.ch h.x)).trans h.x, h.nr, h.nx,
    h.b.trans (hu.below (Nat.le_trans hl h.b.size) (fun b hb hcb => by have := h.k.lo.2.2.2 b hcb; omega))⟩
theorem Stg.heap (h : Stg w0 w base mb n rb xb P x ids L v H) (hl : base ≤ w0.heap.size) (hu : Upd (Hb P.hb v) w w') (hh : HeapAt w' base P.hb v' H') (hp : Hp H') (ho : ∀ b, v'.ownBlock = some b → v.ownBlock = some b ∨ w.heap.size ≤ b) : Stg w0 w' base mb n rb xb P x ids L v' H' := by
  have key : ∀ (b : Nat) (cs : Array Value) (fr : Nat × Nat), w.heap[b]? = some (.cells cs 183 fr) → ¬ v.ownBlock = some b → w'.heap[b]? = w.heap[b]? := fun b cs fr hb hn => hu.block _ (lt_of_heap hb) (fun h2 => by
    rcases h2 with e | e
    · exact pair_ne hb h.k.h.c (by decide) e
    · exact hn e)
  refine ⟨h.k.heap hu hh hp, (key _ _ _ h.r h.nr).trans h.r, (key _ _ _ h.x h.nx).trans h.x, fun e => ?_, fun e => ?_, h.b.trans (hu.below (Nat.le_trans hl h.b.size) (fun b hb hcb => ?_))⟩
  · rcases ho _ e with e | e
    · exact h.nr e
    · have := lt_of_heap h.r; omega
  · rcases ho _ e with e | e
    · exact h.nx e
    · have := lt_of_heap h.x; omega
  · rcases hcb with rfl | e
    · have := h.k.lo.2.2.1; omega
    · have := (Seg.lt h.k.h.r b e).1; omega
theorem look_prev {D : Dt} (hM : ∀ wr, Below base w0 wr → Mod wr mb D) (hl : base ≤ w0.heap.size) (h : Stg w0 w base mb n rb xb P x ids L v H) (hH : H.length ≤ 10000000) {A : List Nat} {i : Nat} {l : Int} (hA : lsI (-1) A = l) (hn : ∀ k ∈ A, k < n) (hi : i < n) :
    Calls Tryd.prog 115 #[.pointer (some ⟨P.wb, 0, none⟩), .int .i64 l, .int .i64 i] w fun e w' => e = .returned (.tuple #[]) ∧ ∃ v' H', Stg w0 w' base mb n rb xb P x ids L v' H' ∧ H'.length ≤ H.length + 1 ∧ ((A = [] ∧ H' = H) ∨ ∃ A' p, A = A' ++ [p] ∧ Put (mg D) ids p i H H') := by
  by_cases h0 : A = []
  · subst h0
    have hl' : l < 0 := by rw [← hA]; decide
    refine (look_none P.wb P.gi P.oi n P.ci _ _ _ l i w h.k.c (.inl hl')).mono ?_
    rintro e w' ⟨rfl, rfl⟩
    exact ⟨rfl, v, H, h, by omega, .inl ⟨rfl, rfl⟩⟩
  · obtain ⟨A', a, h1, h2⟩ := lsI_nat A (-1) h0
    have ha : a < n := hn a (by rw [h1]; simp)
    rw [← hA, h2]
    refine (look_calls D mb P.wb P.cb P.hb base P.gi P.oi n P.ci ids v H a i w (hM w h.b) h.k.c h.k.i h.k.h h.k.hp hH ha hi).mono ?_
    rintro e w' ⟨rfl, v', H', q1, q2, q3, q4, q5, q6⟩
    exact ⟨rfl, v', H', h.heap hl q5 q1 q2 q6, q4, .inr ⟨A', a, h1, q3⟩⟩
theorem look_next {D : Dt} (hM : ∀ wr, Below base w0 wr → Mod wr mb D) (hl : base ≤ w0.heap.size) (h : Stg w0 w base mb n rb xb P x ids L v H) (hH : H.length ≤ 10000000) {B : List Nat} {i : Nat} {r : Int} (hB : hdI B = r) (hn : ∀ k ∈ B, k < n) (hi : i < n) :
    Calls Tryd.prog 115 #[.pointer (some ⟨P.wb, 0, none⟩), .int .i64 i, .int .i64 r] w fun e w' => e = .returned (.tuple #[]) ∧ ∃ v' H', Stg w0 w' base mb n rb xb P x ids L v' H' ∧ H'.length ≤ H.length + 1 ∧ ((B = [] ∧ H' = H) ∨ ∃ q B', B = q :: B' ∧ Put (mg D) ids i q H H') := by
  cases B with
  | nil =>
    have hr' : r < 0 := by rw [← hB]; decide
    refine (look_none P.wb P.gi P.oi n P.ci _ _ _ i r w h.k.c (.inr (.inl ⟨by omega, hr'⟩))).mono ?_
    rintro e w' ⟨rfl, rfl⟩
    exact ⟨rfl, v, H, h, by omega, .inl ⟨rfl, rfl⟩⟩
  | cons q B =>
    have hq : q < n := hn q (by simp)
    have hr : (q : Int) = r := hB
    rw [← hr]
    refine (look_calls D mb P.wb P.cb P.hb base P.gi P.oi n P.ci ids v H i q w (hM w h.b) h.k.c h.k.i h.k.h h.k.hp hH hi hq).mono ?_
    rintro e w' ⟨rfl, v', H', q1, q2, q3, q4, q5, q6⟩
    exact ⟨rfl, v', H', h.heap hl q5 q1 q2 q6, q4, .inr ⟨q, B, rfl, q3⟩⟩
/-- The box is written; the call ends. -/
theorem Stg.fin (h : Stg w0 w base mb n rb xb P x ids L v H) (hl : base ≤ w0.heap.size) (hr : base ≤ rb) : Work (setB w rb x) base mb n P ids L v H ∧ Below base w0 (setB w rb x) ∧ (setB w rb x).heap[rb]? = some (.cells (boxC x) 183 (0, 0)) := by
  have hu : Upd (fun k => k = rb) w (setB w rb x) := setB_upd x
  exact ⟨h.k.box hu h.r h.nr, h.b.trans (hu.below (Nat.le_trans hl h.b.size) (fun k hk e => by omega)), setB_at x h.r⟩
end
/-- What Next answers. -/
def nextOf (L : List Nat) (i : Nat) : Int := if i ∈ L then nx L i else -1
theorem next_pair {L : List Nat} {i j : Nat} (h : nextOf L i = j) : ∃ A B, L = A ++ i :: j :: B := by
  unfold nextOf at h
  by_cases hi : i ∈ L
  · rw [if_pos hi] at h
    obtain ⟨A, B, hL, hA⟩ := List.eq_append_cons_of_mem hi
    rw [hL, nx_mid hA] at h
    cases B with
    | nil => simp [hdI] at h
    | cons b B =>
      simp only [hdI] at h
      have : b = j := by omega
      subst this
      exact ⟨A, B, hL⟩
  · rw [if_neg hi] at h; omega
theorem pair_next {A B : List Nat} {i j : Nat} (hn : (A ++ i :: j :: B).Nodup) : nextOf (A ++ i :: j :: B) i = j := by
  unfold nextOf
  rw [if_pos (by simp), nx_mid (fun hh => (List.nodup_append.1 hn).2.2 i hh i (by simp) rfl)]
  rfl


set_option maxHeartbeats 4000000 in
set_option maxRecDepth 100000 in
theorem step_calls (D : Dt) (mb n base : Nat) (P : Wp) (ids : Nat → Int) (L : List Nat) (v : Value) (H : List Pr) (w : World) (hM : ∀ wr, Below base w wr → Mod wr mb D) (hK : Work w base mb n P ids L v H) (hI : Inv (mg D) n ids L H) (hl : H.length + L.length * 2 ≤ n * 3) (hn : n ≤ 1048576) (hbw : base ≤ w.heap.size) :
    Calls Tryd.prog 98 #[.pointer (some ⟨P.wb, 0, none⟩)] w (Stepped D mb n base P ids L w) := by
  obtain ⟨W1, hW1⟩ : ∃ Xz, w.alloc (.cells #[.int .i64 0, .int .i64 0, .int .i64 0, .int .i64 0, .int .i64 0, .int .i64 0] 183) = Xz := ⟨_, rfl⟩
  obtain ⟨rb, hrb⟩ : ∃ xz, w.heap.size = xz := ⟨_, rfl⟩
  have hb1 : Below w.heap.size w W1 := by rw [← hW1]; exact (Below.refl _ _).alloc (Nat.le_refl _) _
  have HR := Lib.hid (by rw [← hW1, ← hrb]; exact alloc_new rfl : W1.heap[rb]? = some (.cells #[.int .i64 0, .int .i64 0, .int .i64 0, .int .i64 0, .int .i64 0, .int .i64 0] 183 (0, 0)))
  have EW1 := Lib.hid hW1
  have Erb := Lib.hid hrb
  clear hW1 hrb
  have HB := Lib.hid hb1
  have HM := Lib.hid hM
  have HK := Lib.hid (hK.below hb1)
  have HK0 := Lib.hid hK
  have HI := Lib.hid hI
  clear hb1 hM hK hI
  go_enter Tryd.func98, Tryd.ntmps98
  go_upto_region 1 with fail
  rw [EW1.out, Erb.out]
  have hlow : ∀ b, v.ownBlock = some b → b < w.heap.size := fun b hb => by
    have := (Seg.lt HK.out.h.r b hb)
    have h2 := HK0.out.h
    exact (Seg.lt h2.r b hb).2
  have hrb : w.heap.size ≤ rb := by rw [← Erb.out]; exact Nat.le_refl _
  have HLW := Lib.hid hlow
  have HBS := Lib.hid (HB.out.mono hbw)
  clear hlow
  go_loopg [] (H.length + 1) (fun gg wr => ∃ (v' : Value) (H' : List Pr), gg = H'.length + 1 ∧ Work wr base mb n P ids L v' H' ∧ Inv (mg D) n ids L H' ∧ H'.length ≤ H.length ∧ (∀ b, v'.ownBlock = some b → b < w.heap.size) ∧ wr.heap[rb]? = some (.cells #[.int .i64 0, .int .i64 0, .int .i64 0, .int .i64 0, .int .i64 0, .int .i64 0] 183 (0, 0)) ∧ Below base w wr)
  case atStart => exact ⟨v, H, rfl, HK.out, HI.out, Nat.le_refl _, HLW.out, HR.out, HBS.out⟩
  case round =>
    obtain ⟨v', H', hg, hk, hi, hle, hlw, hr, hbw'⟩ := hrel
    have HG := Lib.hid hg
    have HK := Lib.hid hk
    have HI := Lib.hid hi
    have HLW := Lib.hid hlw
    have HR := Lib.hid hr
    have HBS := Lib.hid hbw'
    have HC := Lib.hid hk.c
    clear hg hk hi hlw hr hbw'
    have k3 := cell_at HC.out 3
    have kz := lt_of_heap HC.out
    simp only [List.getElem?_toArray, List.getElem?_cons_zero, List.getElem?_cons_succ] at k3
    by_cases hH : H' = []
    · subst hH
      have HP := Lib.hid (Pop_none wr base P.hb v' HK.out.h)
      simp only [prV, zeroP] at HP
      go_wp2_with fail
      refine HP.out.mono ?_
      rintro e W2 ⟨rfl, hb2⟩
      obtain ⟨W3, hW3⟩ : ∃ Xz, W2.alloc (.cells #[.int .i64 0, .int .i64 0, .int .i64 0, .int .i64 0, .int .i64 0, .int .i64 0] 183) = Xz := ⟨_, rfl⟩
      obtain ⟨xb, hxb⟩ : ∃ xz, W2.heap.size = xz := ⟨_, rfl⟩
      have hb3 : Below W2.heap.size W2 W3 := by rw [← hW3]; exact (Below.refl _ _).alloc (Nat.le_refl _) _
      have HX := Lib.hid (by rw [← hW3, ← hxb]; exact alloc_new rfl : W3.heap[xb]? = some (.cells #[.int .i64 0, .int .i64 0, .int .i64 0, .int .i64 0, .int .i64 0, .int .i64 0] 183 (0, 0)))
      have EW3 := Lib.hid hW3
      have Exb := Lib.hid hxb
      clear hW3 hxb
      have HR3 := Lib.hid (((chain hb2 hb3).block _ (lt_of_heap HR.out)).trans HR.out)
      have HK3 := Lib.hid (HK.out.below (chain hb2 hb3))
      have hbz : base ≤ wr.heap.size := Nat.le_trans hbw HBS.out.size
      have HB3 := Lib.hid (HBS.out.trans ((chain hb2 hb3).mono hbz))
      obtain ⟨Wf, hWf⟩ : ∃ z, setB W3 rb zeroP = z := ⟨_, rfl⟩
      have HWF0 := Lib.hid hWf
      have HWF := Lib.hid hWf
      unfold setB at HWF
      simp only [zeroP] at HWF
      clear hb2 hb3 hWf HP k3 kz HC
      have x0 := cell_at HX.out 0
      have x1 := cell_at HX.out 1
      have x2 := cell_at HX.out 2
      have x3 := cell_at HX.out 3
      have x4 := cell_at HX.out 4
      have x5 := cell_at HX.out 5
      have xz := lt_of_heap HX.out
      simp only [List.getElem?_toArray, List.getElem?_cons_zero, List.getElem?_cons_succ] at x0 x1 x2 x3 x4 x5
      have r0 := cell_at HR3.out 0
      have r1 := cell_at HR3.out 1
      have r2 := cell_at HR3.out 2
      have r3 := cell_at HR3.out 3
      have r4 := cell_at HR3.out 4
      have r5 := cell_at HR3.out 5
      have rf := free_all HR3.out
      have rz := lt_of_heap HR3.out
      simp only [List.getElem?_toArray, List.getElem?_cons_zero, List.getElem?_cons_succ] at r0 r1 r2 r3 r4 r5
      go_upto_region 2 with fail
      rw [EW3.out, Exb.out]
      go_wp2_with fail
      rw [HWF.out]
      have HRF := Lib.hid (HWF0.out ▸ setB_at zeroP HR3.out : Wf.heap[rb]? = some (.cells (boxC zeroP) 183 (0, 0)))
      have HUF := Lib.hid (HWF0.out ▸ setB_upd zeroP : Upd (fun k => k = rb) W3 Wf)
      have HKF := Lib.hid (HK3.out.box HUF.out HR3.out (fun e => by have := HLW.out rb e; omega))
      have HBF := Lib.hid (HB3.out.trans (HUF.out.below (Nat.le_trans hbw HB3.out.size) (fun k hk e => by omega)))
      unfold boxC at HRF
      clear r0 r1 r2 r3 r4 r5 rf rz
      have r0 := cell_at HRF.out 0
      have r1 := cell_at HRF.out 1
      have r2 := cell_at HRF.out 2
      have r3 := cell_at HRF.out 3
      have r4 := cell_at HRF.out 4
      have r5 := cell_at HRF.out 5
      have rz := lt_of_heap HRF.out
      simp only [List.getElem?_toArray, List.getElem?_cons_zero, List.getElem?_cons_succ] at r0 r1 r2 r3 r4 r5
      simp only [zeroP] at r0 r1 r2 r3 r4 r5
      refine bodyPost_ret (v := .tuple #[.agg #[.int .i64 0, .int .i64 0, .int .i64 0, .int .i64 0, .int .i64 0, .int .i64 0], .bool false]) (by simp [results, Tryd.results98, go_sem, *]) rfl (.inl ⟨HI.out.none, ⟨zeroP, rfl⟩, ⟨v', [], HKF.out⟩, HBF.out⟩)
    · have hpop := Pop_some wr base P.hb v' H' HK.out.h hH HK.out.hp (by omega)
      obtain ⟨x, hx⟩ : ∃ x, g H' 0 = x := ⟨_, rfl⟩
      have hpos : 0 < H'.length := List.length_pos_iff.2 hH
      have hxm : x ∈ H' := by rw [← hx]; exact g_mem hpos
      have hmin : ∀ y ∈ H', le x y := fun y hy => by
        obtain ⟨k, hk, rfl⟩ := mem_g.1 hy
        rw [← hx]
        exact HK.out.hp.least k k (Nat.le_refl _) hk
      obtain ⟨hmx, i, j, hxi, hxj, hin, hjn⟩ := HI.out.ok x hxm
      have HP := Lib.hid hpop
      unfold Popped at HP
      rw [hx] at HP
      simp only [prV] at HP
      have HX := Lib.hid hx
      have HXM := Lib.hid hxm
      have HMIN := Lib.hid hmin
      clear hpop hx hpos hxm hmin
      go_wp2_with fail
      refine HP.out.mono ?_
      rintro e W2 ⟨rfl, v2, H2, q1, q2, q3, q4, q5, q6⟩
      have hK2 := HK.out.heap q5 q1 q2
      have hown : ∀ b, Hb P.hb v' b → base ≤ b := fun b hb' => by
        rcases hb' with h | h
        · rw [h]; exact HK.out.lo.2.2.1
        · exact (Seg.lt HK.out.h.r b h).1
      have hB2 : Below base w W2 := HBS.out.trans (q5.below (Nat.le_trans hbw HBS.out.size) (fun b hb' h => by have := hown b h; omega))
      have hR2 := (q5.block rb (lt_of_heap HR.out) (fun h => by
        rcases h with h | h
        · have h1 := HK.out.h.c
          rw [← h, HR.out] at h1
          simp only [Option.some.injEq, Obj.cells.injEq] at h1
          exact absurd h1.2.1 (by decide)
        · have := HLW.out rb h
          omega)).trans HR.out
      obtain ⟨W3, hW3⟩ : ∃ Xz, W2.alloc (.cells #[.int .i64 x.rank, .int .i64 x.left, .int .i64 x.right, .int .i64 x.a, .int .i64 x.b, .int .i64 x.id] 183) = Xz := ⟨_, rfl⟩
      obtain ⟨xb, hxb⟩ : ∃ xz, W2.heap.size = xz := ⟨_, rfl⟩
      have hb3 : Below W2.heap.size W2 W3 := by rw [← hW3]; exact (Below.refl _ _).alloc (Nat.le_refl _) _
      have HXB := Lib.hid (by rw [← hW3, ← hxb]; exact alloc_new rfl : W3.heap[xb]? = some (.cells #[.int .i64 x.rank, .int .i64 x.left, .int .i64 x.right, .int .i64 x.a, .int .i64 x.b, .int .i64 x.id] 183 (0, 0)))
      have EW3 := Lib.hid hW3
      have Exb := Lib.hid hxb
      clear hW3 hxb
      have HK3 := Lib.hid (hK2.below hb3)
      have HB3 := Lib.hid (hB2.trans (hb3.mono (Nat.le_trans hbw hB2.size)) : Below base w W3)
      have HR3 := Lib.hid ((hb3.block _ (lt_of_heap hR2)).trans hR2)
      have HQ3 := Lib.hid q3
      have HQ4 := Lib.hid q4
      have HQ6 := Lib.hid q6
      have HSZ := Lib.hid hB2.size
      have HCI := Lib.hid (And.intro hxi hxj)
      obtain ⟨xr, xl, xt, xa, xbb, xi⟩ := x
      simp only at hxi hxj hmx
      subst hxi
      subst hxj
      have HNX := Lib.hid (Next_calls i W3.drew ((HK3.out.below (Below.refl _ _).drew).ch) hin)
      have hnx : (if i ∈ L then nx L i else -1) = nextOf L i := rfl
      rw [hnx] at HNX
      have HW3 := Lib.hid HK3.out.c
      have v1 := HK3.out.i.cell hin
      have v2' := HK3.out.i.cell hjn
      have gz := HK3.out.i.lt
      obtain ⟨ai, hai⟩ : ∃ z, ids i = z := ⟨_, rfl⟩
      obtain ⟨aj, haj⟩ : ∃ z, ids j = z := ⟨_, rfl⟩
      obtain ⟨nv, hnv⟩ : ∃ z, nextOf L i = z := ⟨_, rfl⟩
      rw [hai] at v1
      rw [haj] at v2'
      rw [hnv] at HNX
      have HAI := Lib.hid hai
      have HAJ := Lib.hid haj
      have HNV := Lib.hid hnv
      have HMX := Lib.hid hmx
      have i1 : (i : Int) < n := by omega
      have i2 : (0 : Int) ≤ i := by omega
      have i3 : (j : Int) < n := by omega
      have i4 : (0 : Int) ≤ j := by omega
      clear hb3 hR2 hB2 hK2 hown q1 q2 q3 q4 q5 q6 hai haj hnv hnx hmx HP k3 kz
      have k1 := cell_at HW3.out 1
      have k2 := cell_at HW3.out 2
      have kz := lt_of_heap HW3.out
      simp only [List.getElem?_toArray, List.getElem?_cons_zero, List.getElem?_cons_succ] at k1 k2
      have x0 := cell_at HXB.out 0
      have x1 := cell_at HXB.out 1
      have x2 := cell_at HXB.out 2
      have x3 := cell_at HXB.out 3
      have x4 := cell_at HXB.out 4
      have x5 := cell_at HXB.out 5
      have xz := lt_of_heap HXB.out
      simp only [List.getElem?_toArray, List.getElem?_cons_zero, List.getElem?_cons_succ] at x0 x1 x2 x3 x4 x5
      go_upto_region 4 with fail
      rw [EW3.out, Exb.out]
      by_cases e1 : nv = j
      · have e1' : (nv != (j : Int)) = false := by simpa using e1
        by_cases e2 : ai = xa
        · have e2' : (ai != xa) = false := by simpa using e2
          by_cases e3 : aj = xbb
          · have e3' : (aj != xbb) = false := by simpa using e3
            subst e1
            subst e2
            subst e3
            obtain ⟨A, B, hL⟩ := next_pair HNV.out
            have HL := Lib.hid hL
            have hst3 : Stg w W3 base mb n rb xb P ⟨xr, i, j, ai, aj, xi⟩ ids L v2 H2 := ⟨HK3.out, HR3.out, HXB.out, fun e => by have := HLW.out rb (HQ6.out rb e); omega, fun e => by have := HLW.out xb (HQ6.out xb e); have := HSZ.out; have := Exb.out; omega, HB3.out⟩
            have HST3 := Lib.hid hst3
            clear hst3
            refine region_tail 37 (by kernel_rfl) (by kernel_rfl) ?_
            simp only [List.take_succ_cons, List.take_zero, List.drop_succ_cons, List.drop_zero]
            repeat (first | still_step | still_call ((flip HNX.out)))
            refine wpStill_nil ?_
            go_wp2_with fail
            have gf := HK3.out.i.free
            refine region_tail 9 (by kernel_rfl) (by kernel_rfl) ?_
            simp only [List.take_succ_cons, List.take_zero, List.drop_succ_cons, List.drop_zero]
            repeat (first | still_step)
            refine wpStill_nil ?_
            go_upto_region 6 with fail
            obtain ⟨W4, hW4⟩ : ∃ z, (W3.setCell ⟨P.gi, P.oi + i, none⟩ (.int .i64 xi)).drew.drew = z := ⟨_, rfl⟩
            rw [hW4]
            have HST4 := Lib.hid (show Stg w W4 base mb n rb xb P ⟨xr, i, j, ai, aj, xi⟩ (ups ids i xi) L v2 H2 from hW4 ▸ (HST3.out.id hin xi).below (Below.refl _ _).drew.drew hbw)
            have HH2 := Lib.hid (show H2.length ≤ 10000000 from by have := HQ4.out; omega)
            have hin' : ∀ k ∈ A ++ i :: j :: B, k < n := by rw [← hL]; exact HK3.out.ch.lt
            have HNA := Lib.hid (fun k (hk : k ∈ A) => hin' k (by simp [hk]))
            have HNB := Lib.hid (fun k (hk : k ∈ B) => hin' k (by simp [hk]))
            have hnd : (A ++ i :: j :: B).Nodup := by rw [← hL]; exact HK3.out.ch.nd
            have HIA := Lib.hid (fun (hh : i ∈ A) => (List.nodup_append.1 hnd).2.2 i hh i (by simp) rfl)
            clear hW4 hL gf v1 v2' gz k1 k2 kz x0 x1 x2 x3 x4 x5 xz hin' hnd HNX
            have HBASE := Lib.hid hbw
            have hc4 : Chn W4.drew P.cb P.p n ((A ++ [i]) ++ j :: B) := by
              have := (HST4.out.k.below (Below.refl _ _).drew).ch
              rw [HL.out] at this
              simpa using this
            have HCUT := Lib.hid (Cut_calls (A ++ [i]) B j W4.drew hc4)
            have HK4 := Lib.hid HST4.out.k.c
            have HX4 := Lib.hid HST4.out.x
            clear hc4
            have k2 := cell_at HK4.out 2
            have kz := lt_of_heap HK4.out
            simp only [List.getElem?_toArray, List.getElem?_cons_zero, List.getElem?_cons_succ] at k2
            have x2 := cell_at HX4.out 2
            have xz := lt_of_heap HX4.out
            simp only [List.getElem?_toArray, List.getElem?_cons_zero, List.getElem?_cons_succ] at x2
            refine region_tail 6 (by kernel_rfl) (by kernel_rfl) ?_
            simp only [List.take_succ_cons, List.take_zero, List.drop_succ_cons, List.drop_zero]
            repeat (first | still_step)
            refine wpStill_nil ?_
            go_wp2_with fail
            refine HCUT.out.mono ?_
            rintro e W5 ⟨rfl, hc5, hu5⟩
            have HST5 := Lib.hid (show Stg w W5 base mb n rb xb P ⟨xr, i, j, ai, aj, xi⟩ (ups ids i xi) (A ++ i :: B) v2 H2 from (HST4.out.below (Below.refl _ _).drew HBASE.out).chn HBASE.out hu5 (by simpa using hc5))
            clear hc5 hu5 HCUT k2 kz x2 xz HK4 HX4
            have hpv := Prev_calls i W5.drew (HST5.out.k.below (Below.refl _ _).drew).ch hin
            rw [if_pos (by simp), pv_mid HIA.out] at hpv
            obtain ⟨pp, hpp⟩ : ∃ z, lsI (-1) A = z := ⟨_, rfl⟩
            rw [hpp] at hpv
            have HPV := Lib.hid hpv
            have HLP := Lib.hid (look_prev (A := A) (i := i) HM.out HBASE.out (HST5.out.below (Below.refl _ _).drew HBASE.out) HH2.out hpp HNA.out hin)
            have HK5 := Lib.hid HST5.out.k.c
            have HX5 := Lib.hid HST5.out.x
            clear hpv hpp
            have k2 := cell_at HK5.out 2
            have kz := lt_of_heap HK5.out
            simp only [List.getElem?_toArray, List.getElem?_cons_zero, List.getElem?_cons_succ] at k2
            have x1 := cell_at HX5.out 1
            have xz := lt_of_heap HX5.out
            simp only [List.getElem?_toArray, List.getElem?_cons_zero, List.getElem?_cons_succ] at x1
            go_upto_region 7 with fail
            refine region_tail 10 (by kernel_rfl) (by kernel_rfl) ?_
            simp only [List.take_succ_cons, List.take_zero, List.drop_succ_cons, List.drop_zero]
            repeat (first | still_step | still_call ((flip HPV.out)))
            refine wpStill_nil ?_
            go_wp2_with fail
            refine HLP.out.mono ?_
            rintro e W6 ⟨rfl, v3, H3, hst6, hl6, hp6⟩
            have HST6 := Lib.hid hst6
            have HP6 := Lib.hid hp6
            have HL6 := Lib.hid (show H3.length ≤ 10000000 from by have := HQ4.out; omega)
            have HL6' := Lib.hid hl6
            clear hst6 hp6 hl6 HLP HPV k2 kz x1 xz HK5 HX5
            have hnx := Next_calls i W6.drew (HST6.out.k.below (Below.refl _ _).drew).ch hin
            rw [if_pos (by simp), nx_mid HIA.out] at hnx
            obtain ⟨qq, hqq⟩ : ∃ z, hdI B = z := ⟨_, rfl⟩
            rw [hqq] at hnx
            have HNX := Lib.hid hnx
            have HLN := Lib.hid (look_next (B := B) (i := i) HM.out HBASE.out (HST6.out.below (Below.refl _ _).drew HBASE.out) HL6.out hqq HNB.out hin)
            have HK6 := Lib.hid HST6.out.k.c
            have HX6 := Lib.hid HST6.out.x
            clear hnx hqq
            have k2 := cell_at HK6.out 2
            have kz := lt_of_heap HK6.out
            simp only [List.getElem?_toArray, List.getElem?_cons_zero, List.getElem?_cons_succ] at k2
            have x1 := cell_at HX6.out 1
            have xz := lt_of_heap HX6.out
            simp only [List.getElem?_toArray, List.getElem?_cons_zero, List.getElem?_cons_succ] at x1
            go_upto_region 8 with fail
            refine region_tail 10 (by kernel_rfl) (by kernel_rfl) ?_
            simp only [List.take_succ_cons, List.take_zero, List.drop_succ_cons, List.drop_zero]
            repeat (first | still_step | still_call ((flip HNX.out)))
            refine wpStill_nil ?_
            go_wp2_with fail
            refine HLN.out.mono ?_
            rintro e W7 ⟨rfl, v4, H4, hst7, hl7, hp7⟩
            have HST7 := Lib.hid hst7
            have HP7 := Lib.hid hp7
            have HL7 := Lib.hid hl7
            clear hst7 hp7 hl7 HLN HNX k2 kz x1 xz HK6 HX6
            have HR7 := Lib.hid HST7.out.r
            have HX7 := Lib.hid HST7.out.x
            obtain ⟨Wf, hWf⟩ : ∃ z, setB W7 rb ⟨xr, i, j, ai, aj, xi⟩ = z := ⟨_, rfl⟩
            have hfin := HST7.out.fin HBASE.out (by omega)
            rw [hWf] at hfin
            have HFIN := Lib.hid hfin
            unfold setB at hWf
            simp only at hWf
            have HWF := Lib.hid hWf
            clear hWf hfin
            have x0 := cell_at HX7.out 0
            have x1 := cell_at HX7.out 1
            have x2 := cell_at HX7.out 2
            have x3 := cell_at HX7.out 3
            have x4 := cell_at HX7.out 4
            have x5 := cell_at HX7.out 5
            have xz := lt_of_heap HX7.out
            simp only [List.getElem?_toArray, List.getElem?_cons_zero, List.getElem?_cons_succ] at x0 x1 x2 x3 x4 x5
            have r0 := cell_at HR7.out 0
            have r1 := cell_at HR7.out 1
            have r2 := cell_at HR7.out 2
            have r3 := cell_at HR7.out 3
            have r4 := cell_at HR7.out 4
            have r5 := cell_at HR7.out 5
            have rf := free_all HR7.out
            have rz := lt_of_heap HR7.out
            simp only [List.getElem?_toArray, List.getElem?_cons_zero, List.getElem?_cons_succ] at r0 r1 r2 r3 r4 r5
            go_wp2_with fail
            rw [HWF.out]
            have HRF := Lib.hid HFIN.out.2.2
            unfold boxC at HRF
            simp only at HRF
            clear r0 r1 r2 r3 r4 r5 rf rz
            have r0 := cell_at HRF.out 0
            have r1 := cell_at HRF.out 1
            have r2 := cell_at HRF.out 2
            have r3 := cell_at HRF.out 3
            have r4 := cell_at HRF.out 4
            have r5 := cell_at HRF.out 5
            have rz := lt_of_heap HRF.out
            simp only [List.getElem?_toArray, List.getElem?_cons_zero, List.getElem?_cons_succ] at r0 r1 r2 r3 r4 r5
            have hnext := HI.out.next HXM.out HMIN.out HL.out rfl HAI.out.symm HAJ.out.symm
            have hstep := HI.out.step (x := ⟨xr, i, j, ai, aj, xi⟩) (H1 := H2) (H2 := H3) (H3 := H4) (A := A) (B := B) (i := i) (j := j) (fun y hy => mem_pop ((HQ3.out y).1 hy)) (fun y hy hne => (HQ3.out y).2 (pop_mem hy (fun e => hne (by rw [e]; exact HX.out)))) HL.out rfl HP6.out HP7.out
            have hlen : L.length = (A ++ i :: B).length + 1 := by rw [HL.out]; simp; omega
            refine bodyPost_ret (v := .tuple #[.agg #[.int .i64 xr, .int .i64 i, .int .i64 j, .int .i64 ai, .int .i64 aj, .int .i64 xi], .bool true]) (by simp [results, Tryd.results98, go_sem, *]) rfl (.inr ⟨xr, A.length, xi, ups ids i xi, A ++ i :: B, v4, H4, hnext.1, hnext.2, ⟨⟨xr, i, j, ai, aj, xi⟩, rfl⟩, HFIN.out.1, hstep, by have := HL6'.out; have := HL7.out; have := HQ4.out; omega, by omega, HFIN.out.2.1⟩)
          · have e3' : (aj != xbb) = true := by simpa using e3
            have HE := Lib.hid (fun (_ : nextOf L i = j) (_ : xa = ids i) (h3 : xbb = ids j) => e3 (by rw [← HAJ.out]; exact h3.symm))
            clear e1 e2 e3
            refine region_tail 37 (by kernel_rfl) (by kernel_rfl) ?_
            simp only [List.take_succ_cons, List.take_zero, List.drop_succ_cons, List.drop_zero]
            repeat (first | still_step | still_call ((flip HNX.out)))
            refine wpStill_nil ?_
            go_wp2_with fail
            go_roundg (H2.length + 1)
            case measure => have := HG.out; have := HQ4.out; omega
            case rel =>
              refine ⟨v2, H2, rfl, HK3.out.below (Below.refl _ _).drew, HI.out.skip (x := ⟨xr, i, j, xa, xbb, xi⟩) (fun y hy => mem_pop ((HQ3.out y).1 hy)) (fun y hy hne => (HQ3.out y).2 (pop_mem hy (fun e => hne (by rw [e]; exact HX.out)))) ?_, by have := HQ4.out; omega, fun b hb => HLW.out b (HQ6.out b hb), HR3.out, HB3.out.drew⟩
              rintro ⟨A, i', j', B, hL, h1, h2, h3, h4⟩
              have hii : i' = i := by have h1 : (i : Int) = i' := h1; omega
              have hjj : j' = j := by have h2 : (j : Int) = j' := h2; omega
              subst hii
              subst hjj
              refine HE.out ?_ h3 h4
              have hn := HK3.out.ch.nd
              rw [hL] at hn ⊢
              exact pair_next hn
        · have e2' : (ai != xa) = true := by simpa using e2
          have HE := Lib.hid (fun (_ : nextOf L i = j) (h2 : xa = ids i) (_ : xbb = ids j) => e2 (by rw [← HAI.out]; exact h2.symm))
          clear e1 e2
          refine region_tail 37 (by kernel_rfl) (by kernel_rfl) ?_
          simp only [List.take_succ_cons, List.take_zero, List.drop_succ_cons, List.drop_zero]
          repeat (first | still_step | still_call ((flip HNX.out)))
          refine wpStill_nil ?_
          go_wp2_with fail
          go_roundg (H2.length + 1)
          case measure => have := HG.out; have := HQ4.out; omega
          case rel =>
            refine ⟨v2, H2, rfl, HK3.out.below (Below.refl _ _).drew, HI.out.skip (x := ⟨xr, i, j, xa, xbb, xi⟩) (fun y hy => mem_pop ((HQ3.out y).1 hy)) (fun y hy hne => (HQ3.out y).2 (pop_mem hy (fun e => hne (by rw [e]; exact HX.out)))) ?_, by have := HQ4.out; omega, fun b hb => HLW.out b (HQ6.out b hb), HR3.out, HB3.out.drew⟩
            rintro ⟨A, i', j', B, hL, h1, h2, h3, h4⟩
            have hii : i' = i := by have h1 : (i : Int) = i' := h1; omega
            have hjj : j' = j := by have h2 : (j : Int) = j' := h2; omega
            subst hii
            subst hjj
            refine HE.out ?_ h3 h4
            have hn := HK3.out.ch.nd
            rw [hL] at hn ⊢
            exact pair_next hn
      · have e1' : (nv != (j : Int)) = true := by simpa using e1
        have HE := Lib.hid (fun (h1 : nextOf L i = j) (_ : xa = ids i) (_ : xbb = ids j) => e1 (by rw [← HNV.out]; exact h1))
        clear e1
        refine region_tail 37 (by kernel_rfl) (by kernel_rfl) ?_
        simp only [List.take_succ_cons, List.take_zero, List.drop_succ_cons, List.drop_zero]
        repeat (first | still_step | still_call ((flip HNX.out)))
        refine wpStill_nil ?_
        go_wp2_with fail
        go_roundg (H2.length + 1)
        case measure => have := HG.out; have := HQ4.out; omega
        case rel =>
          refine ⟨v2, H2, rfl, HK3.out.below (Below.refl _ _).drew, HI.out.skip (x := ⟨xr, i, j, xa, xbb, xi⟩) (fun y hy => mem_pop ((HQ3.out y).1 hy)) (fun y hy hne => (HQ3.out y).2 (pop_mem hy (fun e => hne (by rw [e]; exact HX.out)))) ?_, by have := HQ4.out; omega, fun b hb => HLW.out b (HQ6.out b hb), HR3.out, HB3.out.drew⟩
          rintro ⟨A, i', j', B, hL, h1, h2, h3, h4⟩
          have hii : i' = i := by have h1 : (i : Int) = i' := h1; omega
          have hjj : j' = j := by have h2 : (j : Int) = j' := h2; omega
          subst hii
          subst hjj
          refine HE.out ?_ h3 h4
          have hn := HK3.out.ch.nd
          rw [hL] at hn ⊢
          exact pair_next hn
end Go.Proofs.YtkjkgpdfhmoenaaDoor.BpeGo
