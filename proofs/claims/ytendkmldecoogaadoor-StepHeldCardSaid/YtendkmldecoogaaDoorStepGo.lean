/-
  step.Cutter: the methods that take items. step.Cutter: an item is taken. step.Cutter: an item is taken, in a run, behind spaces. step.Cutter: behind spaces, behind a quote; an item is taken, whatever the state. step.Cutter: an item is taken behind spaces, behind a quote, whatever the state. step.Cutter: an item is taken behind a quote; an item is taken. step.Cutter: an item is taken; what is sure.
-/
import Derived.Test.YtendkmldecoogaaDoorScan
import Derived.Test.YtendkmldecoogaaDoorStepLaw
import Derived.Test.YtendkmldecoogaaDoorRgu
import Derived.Test.YtendkmldecoogaaDoorCutAll
namespace Go.Proofs.YtendkmldecoogaaDoor.StepGo
open Go Go.RowKit Go.Proofs.YtendkmldecoogaaDoor Go.Proofs.YtendkmldecoogaaDoor.Kit Go.Proofs.YtendkmldecoogaaDoor.Round Go.Proofs.YtendkmldecoogaaDoor.Seg Go.Proofs.YtendkmldecoogaaDoor.Collect Go.Proofs.YtendkmldecoogaaDoor.Dt Go.Proofs.YtendkmldecoogaaDoor.Cu Go.Proofs.YtendkmldecoogaaDoor.CutTokens Go.Proofs.YtendkmldecoogaaDoor.StepLaw Go.Proofs.YtendkmldecoogaaDoor.Scan
attribute [local irreducible] wpQuiet
set_option linter.unusedSimpArgs false

/-- A Cutter's cells. -/
def cellsC (cb tb sb most : Nat) (v : Value) (en : Bool) (at' : Nat) (S : Sx) : Array Value :=
  #[.pointer (some ⟨tb, 0, none⟩), .pointer (some ⟨sb, 0, none⟩), .int .i64 most, .func (.func 87) #[.pointer (some ⟨cb, 0, none⟩)] #[], .int .i64 S.st, .int .i64 S.bytes, .int .i64 S.sort, .int .i64 S.kind,
    .int .i64 S.letter.n, .int .i64 S.letter.k, .int .u8 S.letter.c, .int .i64 S.last.n, .int .i64 S.last.k, .int .u8 S.last.c, .int .i64 S.many, .int .i64 S.told, v, .bool en, .bool S.over, .int .i64 at']
def itemV (x : Ix) : Value := .agg #[.int .i64 x.n, .int .i64 x.k, .int .u8 x.c]

/-- A Cutter at cb: what it tells is in a row of its own, made since base. -/
structure St (W : World) (base cb tb sb most : Nat) (en : Bool) (at' : Nat) (S : Sx) : Prop where
  cell : ∃ v, W.heap[cb]? = some (.cells (cellsC cb tb sb most v en at' S) 149 (0, 0)) ∧ TRow W base v S.out
  lo : cb < base
  hi : base ≤ W.heap.size

variable {W W' : World} {base cb tb sb most : Nat} {en : Bool} {at' : Nat} {S S' : Sx}
theorem St.below (h : St W base cb tb sb most en at' S) (hb : Below W.heap.size W W') : St W' base cb tb sb most en at' S := by
  obtain ⟨v, h1, h2⟩ := h.cell
  exact ⟨⟨v, (hb.block _ (lt_of_heap h1)).trans h1, h2.below hb⟩, h.lo, Nat.le_trans h.hi hb.size⟩
/-- What a method may change. -/
def Mine (W : World) (base cb : Nat) (b : Nat) : Prop := b = cb ∨ (base ≤ b ∧ ∃ c, W.heap[b]? = some (.cells c 49 (0, 0)))
theorem Mine.below (hb : Below W.heap.size W W') : Upd (Mine W base cb) W W' := Upd.of_below hb
theorem Mine.trans {W1 W2 : World} (h : Upd (Mine W base cb) W W1) (k : Upd (Mine W1 base cb) W1 W2) : Upd (Mine W base cb) W W2 :=
  ⟨k.os.trans h.os, k.tape.trans h.tape, k.output.trans h.output, Nat.le_trans h.size k.size, fun b hb hn => by
    have h1 := h.block b hb hn
    refine (k.block b (Nat.lt_of_lt_of_le hb h.size) (fun hm => hn ?_)).trans h1
    rcases hm with hm | ⟨h2, c, h3⟩
    · exact .inl hm
    · exact .inr ⟨h2, c, by rw [← h1]; exact h3⟩⟩
theorem Mine.keep {b : Nat} {cs : Array Value} {ty : TypeId} {fr : Nat × Nat} (h : Upd (Mine W base cb) W W') (hb : W.heap[b]? = some (.cells cs ty fr)) (hn : b ≠ cb) (ht : ty ≠ 49) : W'.heap[b]? = some (.cells cs ty fr) := by
  refine Upd.mem h hb ?_
  rintro (hm | ⟨_, c, h3⟩)
  · exact hn hm
  · rw [hb] at h3
    simp only [Option.some.injEq, Obj.cells.injEq] at h3
    exact ht h3.2.1

theorem St.done {W1 : World} {v : Value} {cs : Array Value} {en' : Bool} {at2 : Nat} (h : St W base cb tb sb most en at' S) (hb : Below W.heap.size W W1) (hc : W1.heap[cb]? = some (.cells cs 149 (0, 0))) (hr : TRow W1 base v S.out) (hu : Upd (fun b => b = cb) W1 W')
    (hh : W'.heap[cb]? = some (.cells (cellsC cb tb sb most v en' at2 S') 149 (0, 0))) (ho : S'.out = S.out) : St W' base cb tb sb most en' at2 S' ∧ Upd (Mine W base cb) W W' := by
  refine ⟨⟨⟨v, hh, ?_⟩, h.lo, Nat.le_trans h.hi (Nat.le_trans hb.size hu.size)⟩, (Mine.below hb).trans (hu.mono fun b _ h => .inl h)⟩
  rw [ho]
  exact Seg.upd hr hu (fun k hk hh => by rw [hh] at hk; exact no_own hr hc (by decide) hk)

theorem St.fin {A : World} {v : Value} {cs : Array Value} {en' : Bool} {at2 : Nat} (h : St W base cb tb sb most en at' S) (hu0 : Upd (Mine W base cb) W A) (hc : A.heap[cb]? = some (.cells cs 149 (0, 0))) (hr : TRow A base v S'.out) (hu : Upd (fun b => b = cb) A W')
    (hh : W'.heap[cb]? = some (.cells (cellsC cb tb sb most v en' at2 S') 149 (0, 0))) : St W' base cb tb sb most en' at2 S' ∧ Upd (Mine W base cb) W W' :=
  ⟨⟨⟨v, hh, Seg.upd hr hu (fun k hk hh => by rw [hh] at hk; exact no_own hr hc (by decide) hk)⟩, h.lo, Nat.le_trans h.hi (Nat.le_trans hu0.size hu.size)⟩, hu0.trans (hu.mono fun b _ h => .inl h)⟩


set_option maxHeartbeats 1000000 in
set_option maxRecDepth 100000 in
theorem runs_calls (x : Ix) (ahead : Nat) (W : World) (h : St W base cb tb sb most en at' S) (hs : ahead ≤ 1000000000000 ∧ x.n ≤ 1000000000000) :
    Calls Tryd.prog 120 #[.pointer (some ⟨cb, 0, none⟩), itemV x, .int .i64 ahead] W fun e w' => e = .returned (.tuple #[]) ∧ St w' base cb tb sb most en at' (runs S x ahead) ∧ Upd (Mine W base cb) W w' := by
  obtain ⟨v, hc, hr⟩ := h.cell
  obtain ⟨W1, hW1⟩ : ∃ Xz, W.alloc (.cells #[.int .i64 x.n, .int .i64 x.k, .int .u8 x.c] 147) = Xz := ⟨_, rfl⟩
  obtain ⟨bx, hbx⟩ : ∃ xz, W.heap.size = xz := ⟨_, rfl⟩
  have hb1 : Below W.heap.size W W1 := by rw [← hW1]; exact (Below.refl _ _).alloc (Nat.le_refl _) _
  have HX := Lib.hid (by rw [← hW1, ← hbx]; exact alloc_new rfl : W1.heap[bx]? = some (.cells #[.int .i64 x.n, .int .i64 x.k, .int .u8 x.c] 147 (0, 0)))
  have EW1 := Lib.hid hW1
  have Ebx := Lib.hid hbx
  clear hW1 hbx
  have HST := Lib.hid h
  have HC := Lib.hid ((hb1.block _ (lt_of_heap hc)).trans hc)
  have HR := Lib.hid (hr.below hb1)
  have HB := Lib.hid hb1
  have hne : bx ≠ cb := by have := Ebx.out; have := lt_of_heap hc; omega
  clear h hc hr hb1
  unfold cellsC at HC
  unfold itemV
  have hw1 : IntKind.i64.wrap ((ahead : Int) + x.n) = ((ahead + x.n : Nat) : Int) := by rw [i64w _ (by omega) (by omega)]; omega
  have c4 := cell_at HC.out 4
  have c5 := cell_at HC.out 5
  have c6 := cell_at HC.out 6
  have c7 := cell_at HC.out 7
  have cf := free_all HC.out
  have cz := lt_of_heap HC.out
  simp only [List.getElem?_toArray, List.getElem?_cons_zero, List.getElem?_cons_succ] at c4 c5 c6 c7
  have x0 := cell_at HX.out 0
  have x1 := cell_at HX.out 1
  have x2 := cell_at HX.out 2
  have xz := lt_of_heap HX.out
  simp only [List.getElem?_toArray, List.getElem?_cons_zero, List.getElem?_cons_succ] at x0 x1 x2
  have HOP := Lib.hid (fun (w' : World) (hw' : w'.heap[bx]? = some (.cells #[.int .i64 x.n, .int .i64 x.k, .int .u8 x.c] 147 (0, 0))) => (⟨cell_at hw' 0, cell_at hw' 1⟩ : w'.cell? ⟨bx, 0, none⟩ = some (.int .i64 x.n) ∧ w'.cell? ⟨bx, 1, none⟩ = some (.int .i64 x.k)))
  go_enter Tryd.func120, Tryd.ntmps120
  go_wp2_with fail
  rw [EW1.out, Ebx.out]
  refine Rgs.RGT_begin (fun w' => w'.heap[bx]? = some (.cells #[.int .i64 x.n, .int .i64 x.k, .int .u8 x.c] 147 (0, 0))) 18 [(0, 6), (1, 7), (2, 8), (3, 9), (5, 11), (6, 12), (4, 10), (7, 13), (9, 15), (8, 14), (10, 16)] (by rfl) (by decide +kernel) (by kernel_rfl) (HX.out) (fun R hR => ?_)
  repeat ((first | refine Rgs.RGT_take (by exact rfl) (by exact rfl) (by decide +kernel) (by exact rfl) (by intro w' hw'; obtain ⟨y0, y1⟩ := HOP.out _ hw'; go_simp; try with_reducible rfl) ?_ | refine Rgs.RGT_skip (by exact rfl) (by exact rfl) (by decide +kernel) (by exact rfl) ?_); try simp only [Act.put, List.setIfInBounds_toArray, List.set_cons_zero, List.set_cons_succ])
  refine Rgs.RGT_one 11 [(12, 17), (13, 18)] (by exact rfl) (by decide +kernel) (by exact rfl) (fun K hK => ?_)
  go_wp2_with (fail)
  refine hK _ _ (by repeat (first | (with_reducible exact HX.out) | (with_reducible refine Rgs.drew_heap ?_) | (with_reducible refine Rgs.set_heap hne ?_))) ?_
  clear hK K
  try simp only [Act.put, List.setIfInBounds_toArray, List.set_cons_zero, List.set_cons_succ]
  repeat ((first | refine Rgs.RGT_take (by exact rfl) (by exact rfl) (by decide +kernel) (by exact rfl) (by intro w' hw'; obtain ⟨y0, y1⟩ := HOP.out _ hw'; go_simp; try with_reducible rfl) ?_ | refine Rgs.RGT_skip (by exact rfl) (by exact rfl) (by decide +kernel) (by exact rfl) ?_); try simp only [Act.put, List.setIfInBounds_toArray, List.set_cons_zero, List.set_cons_succ])
  refine Rgs.RGT_one 14 [(15, 19), (16, 20)] (by exact rfl) (by decide +kernel) (by exact rfl) (fun K hK => ?_)
  go_wp2_with (fail)
  refine hK _ _ (by repeat (first | (with_reducible exact HX.out) | (with_reducible refine Rgs.drew_heap ?_) | (with_reducible refine Rgs.set_heap hne ?_))) ?_
  clear hK K
  try simp only [Act.put, List.setIfInBounds_toArray, List.set_cons_zero, List.set_cons_succ]
  repeat ((first | refine Rgs.RGT_take (by exact rfl) (by exact rfl) (by decide +kernel) (by exact rfl) (by intro w' hw'; obtain ⟨y0, y1⟩ := HOP.out _ hw'; go_simp; try with_reducible rfl) ?_ | refine Rgs.RGT_skip (by exact rfl) (by exact rfl) (by decide +kernel) (by exact rfl) ?_); try simp only [Act.put, List.setIfInBounds_toArray, List.set_cons_zero, List.set_cons_succ])
  refine Rgs.RGT_one 17 [] (by exact rfl) (by decide +kernel) (by exact rfl) (fun K hK => ?_)
  go_wp2_with (fail)
  refine hK _ _ (by repeat (first | (with_reducible exact HX.out) | (with_reducible refine Rgs.drew_heap ?_) | (with_reducible refine Rgs.set_heap hne ?_))) ?_
  clear hK K
  try simp only [Act.put, List.setIfInBounds_toArray, List.set_cons_zero, List.set_cons_succ]
  refine Rgs.RGT_done (by decide +kernel) (hR _ _ ?_)
  clear hR R
  by_cases k1 : x.k = 1
  · have hk1 : (x.k == 1) = true := by simp [k1]
    have hs0 : sortOf x.k = 2 := by simp [sortOf, k1]
    clear k1
    go_wp2_with fail
    go_end0
    refine ⟨rfl, St.done HST.out HB.out HC.out HR.out (by repeat (first | (with_reducible exact Upd.refl _ _) | (with_reducible refine Upd.drew ?_) | (with_reducible refine Upd.setCell ?_ (by intro _; rfl) _))) ?_ rfl⟩
    unfold runs cellsC
    rw [hs0]
    exact by simp only [World.setCell, World.drew, Array.getElem?_modify, if_true, HC.out, Option.map_some, Option.isSome_none, Bool.false_eq_true, if_false, List.setIfInBounds_toArray, List.set_cons_zero, List.set_cons_succ] <;> rfl
  · have hk1 : (x.k == 1) = false := by simp [k1]
    by_cases k2 : x.k = 2
    · have hk2 : (x.k == 2) = true := by simp [k2]
      have hs0 : sortOf x.k = 3 := by simp [sortOf, k2]
      clear k1 k2
      go_wp2_with fail
      go_end0
      refine ⟨rfl, St.done HST.out HB.out HC.out HR.out (by repeat (first | (with_reducible exact Upd.refl _ _) | (with_reducible refine Upd.drew ?_) | (with_reducible refine Upd.setCell ?_ (by intro _; rfl) _))) ?_ rfl⟩
      unfold runs cellsC
      rw [hs0]
      exact by simp only [World.setCell, World.drew, Array.getElem?_modify, if_true, HC.out, Option.map_some, Option.isSome_none, Bool.false_eq_true, if_false, List.setIfInBounds_toArray, List.set_cons_zero, List.set_cons_succ] <;> rfl
    · have hk2 : (x.k == 2) = false := by simp [k2]
      have hs0 : sortOf x.k = 4 := by simp [sortOf, k1, k2]
      clear k1 k2
      go_wp2_with fail
      go_end0
      refine ⟨rfl, St.done HST.out HB.out HC.out HR.out (by repeat (first | (with_reducible exact Upd.refl _ _) | (with_reducible refine Upd.drew ?_) | (with_reducible refine Upd.setCell ?_ (by intro _; rfl) _))) ?_ rfl⟩
      unfold runs cellsC
      rw [hs0]
      exact by simp only [World.setCell, World.drew, Array.getElem?_modify, if_true, HC.out, Option.map_some, Option.isSome_none, Bool.false_eq_true, if_false, List.setIfInBounds_toArray, List.set_cons_zero, List.set_cons_succ] <;> rfl

set_option maxHeartbeats 1000000 in
set_option maxRecDepth 100000 in
theorem tell_calls (n sort : Nat) (W : World) (h : St W base cb tb sb most en at' S) (hs : S.told + n ≤ 1000000000000 ∧ S.out.length ≤ 1000000000 ∧ most ≤ 1000000000000) :
    Calls Tryd.prog 93 #[.pointer (some ⟨cb, 0, none⟩), .int .i64 n, .int .i64 sort] W fun e w' => e = .returned (.tuple #[]) ∧ St w' base cb tb sb most en at' (tell most S n sort) ∧ Upd (Mine W base cb) W w' := by
  obtain ⟨v, hc, hr⟩ := h.cell
  have HST := Lib.hid h
  have HC := Lib.hid hc
  have HR := Lib.hid hr
  unfold cellsC at HC
  clear h hc hr
  have c2 := cell_at HC.out 2
  have c4 := cell_at HC.out 4
  have c5 := cell_at HC.out 5
  have c8 := cell_at HC.out 8
  have c9 := cell_at HC.out 9
  have c10 := cell_at HC.out 10
  have c14 := cell_at HC.out 14
  have c15 := cell_at HC.out 15
  have c16 := cell_at HC.out 16
  have c18 := cell_at HC.out 18
  have cf := free_all HC.out
  have cz := lt_of_heap HC.out
  simp only [List.getElem?_toArray, List.getElem?_cons_zero, List.getElem?_cons_succ] at c2 c4 c5 c8 c9 c10 c14 c15 c16 c18
  cases hov : S.over with
  | true =>
    rw [hov] at c18
    go_enter Tryd.func93, Tryd.ntmps93
    go_wp2_with fail
    (try simp only [Exit.inBlock, Exit.then]); refine bodyPost_ret (results_none rfl _ _ _) rfl ?_
    unfold tell
    rw [if_pos hov]
    exact ⟨rfl, HST.out, Upd.refl _ _⟩
  | false =>
    rw [hov] at c18
    by_cases hm : most < n
    · have hmi : (most : Int) < n := by omega
      go_enter Tryd.func93, Tryd.ntmps93
      go_wp2_with fail
      (try simp only [Exit.inBlock, Exit.then]); refine bodyPost_ret (results_none rfl _ _ _) rfl ?_
      have ht : tell most S n sort = { S with over := true } := by unfold tell; rw [if_neg (by simp [hov]), if_pos hm]
      rw [ht]
      refine ⟨rfl, St.done HST.out (Below.refl _ _) HC.out HR.out (by repeat (first | (with_reducible exact Upd.refl _ _) | (with_reducible refine Upd.drew ?_) | (with_reducible refine Upd.setCell ?_ (by intro _; rfl) _))) ?_ rfl⟩
      unfold cellsC
      exact by simp only [World.setCell, World.drew, Array.getElem?_modify, if_true, HC.out, Option.map_some, Option.isSome_none, Bool.false_eq_true, if_false, List.setIfInBounds_toArray, List.set_cons_zero, List.set_cons_succ] <;> rfl
    · have hmi : ¬ ((most : Int) < n) := by omega
      have hw1 : IntKind.i64.wrap ((S.told : Int) + n) = ((S.told + n : Nat) : Int) := by rw [i64w _ (by omega) (by omega)]; omega
      obtain ⟨W0, hW0⟩ : ∃ Xz, W.alloc (.cells #[.int .i64 S.told, .int .i64 ((S.told : Int) + n), .int .i64 sort] 49) = Xz := ⟨_, rfl⟩
      obtain ⟨bn, hbn⟩ : ∃ xz, W.heap.size = xz := ⟨_, rfl⟩
      have hb1 : Below W.heap.size W W0 := by rw [← hW0]; exact (Below.refl _ _).alloc (Nat.le_refl _) _
      have HN := Lib.hid (by rw [← hW0, ← hbn]; exact alloc_new rfl : W0.heap[bn]? = some (.cells #[.int .i64 S.told, .int .i64 ((S.told : Int) + n), .int .i64 sort] 49 (0, 0)))
      have EW0 := Lib.hid hW0
      have Ebn := Lib.hid hbn
      clear hW0 hbn
      have hb0 : Below W.heap.size W W.drew := (Below.refl _ _).drew
      obtain ⟨W1, hW1⟩ : ∃ z, W0.drew = z := ⟨_, rfl⟩
      have hb1 : Below W.heap.size W W1 := hW1 ▸ hb1.drew
      have HN := Lib.hid (show W1.heap[bn]? = some (.cells #[.int .i64 S.told, .int .i64 ((S.told : Int) + n), .int .i64 sort] 49 (0, 0)) from hW1 ▸ HN.out)
      obtain ⟨i, hi, hz0, hz1, hz2⟩ := elemT.parts
      have hsrc : Src W1 (.slice (some ⟨bn, 0, none⟩) 1 1) 1 (flat [⟨S.told, S.told + n, sort⟩]) := by
        refine ⟨some ⟨bn, 0, none⟩, 1, rfl, (fun h => by cases h), fun ad had j u hu => ?_⟩
        cases had
        rw [add_plain, cell_at HN.out]
        simpa [flat] using hu
      obtain ⟨v2, A, hr, ha, _⟩ := run_append_seg (P := Tryd.prog) W1 base 22 22 49 i _ 3 24 elemT.t hi hz0 hz1 hz2 elemT.z elemT.p v S.out.length (flat S.out) (HR.out.below hb1) (.slice (some ⟨bn, 0, none⟩) 1 1) 1 _ (by rfl) hsrc (by simp [flat, Value.oneCell']) (by unfold maxLen; omega) (by omega) (Nat.le_trans HST.out.hi hb1.size)
      have hno := no_own (HR.out.below hb1) ((hb1.block _ (lt_of_heap HC.out)).trans HC.out) (by decide)
      have HCA := Lib.hid (Upd.mem ha.u ((hb1.block _ (lt_of_heap HC.out)).trans HC.out) hno)
      have HC1 := Lib.hid ((hb1.block _ (lt_of_heap HC.out)).trans HC.out)
      have HCD := Lib.hid ((hb0.block _ (lt_of_heap HC.out)).trans HC.out)
      have HSG := Lib.hid ha.seg
      have HRUN := Lib.hid hr
      have HAU := Lib.hid ha.u
      have HB1 := Lib.hid hb1
      have hlb : ∀ b, v.ownBlock = some b → base ≤ b := fun b hb => (Seg.lt HR.out b hb).1
      have HLB := Lib.hid hlb
      rw [← hW1, ← EW0.out, ← Ebn.out] at HRUN
      obtain ⟨av2, cv2, rfl, _, _, _⟩ := Seg.shape HSG.out
      clear hr ha hsrc hb1 hi hz0 hz1 hz2 hno hb0 hlb
      obtain ⟨cs, hcs⟩ : ∃ cs : Array Value, cs = #[.pointer (some ⟨tb, 0, none⟩), .pointer (some ⟨sb, 0, none⟩), .int .i64 most, .func (.func 87) #[.pointer (some ⟨cb, 0, none⟩)] #[], .int .i64 S.st, .int .i64 S.bytes, .int .i64 S.sort, .int .i64 S.kind,
        .int .i64 S.letter.n, .int .i64 S.letter.k, .int .u8 S.letter.c, .int .i64 S.last.n, .int .i64 S.last.k, .int .u8 S.last.c, .int .i64 S.many, .int .i64 S.told, v, .bool en, .bool S.over, .int .i64 at'] := ⟨_, rfl⟩
      have HOP := Lib.hid (fun (w' : World) (hw' : w'.heap[cb]? = some (.cells cs 149 (0, 0))) => (by rw [hcs] at hw'; exact ⟨cell_at hw' 15, cell_at hw' 16⟩ : w'.cell? ⟨cb, 15, none⟩ = some (.int .i64 S.told) ∧ w'.cell? ⟨cb, 16, none⟩ = some v))
      have k4 := cell_at HCA.out 4
      have k5 := cell_at HCA.out 5
      have k8 := cell_at HCA.out 8
      have k9 := cell_at HCA.out 9
      have k10 := cell_at HCA.out 10
      have k14 := cell_at HCA.out 14
      have k15 := cell_at HCA.out 15
      have k16 := cell_at HCA.out 16
      have kf := free_all HCA.out
      have kz := lt_of_heap HCA.out
      simp only [List.getElem?_toArray, List.getElem?_cons_zero, List.getElem?_cons_succ] at k4 k5 k8 k9 k10 k14 k15 k16
      go_enter Tryd.func93, Tryd.ntmps93
      go_wp2_with fail
      refine Rgu.RGO_begin (fun w' => w'.heap[cb]? = some (.cells cs 149 (0, 0))) 22 23 [(0, 19), (1, 20), (5, 24), (9, 28), (13, 32), (16, 35), (2, 21), (6, 25), (10, 29), (3, 22), (7, 26), (11, 30), (4, 23), (8, 27), (12, 31), (14, 33), (15, 34), (17, 36)] (by rfl) (by decide +kernel) (by kernel_rfl) (by rw [hcs]; exact HC.out) (fun R hR => ?_)
      repeat ((first | refine Rgu.RGO_take (by exact rfl) (by exact rfl) (by decide +kernel) (by exact rfl) (by intro w' hw'; obtain ⟨y0, y1⟩ := HOP.out _ hw'; go_simp; try with_reducible rfl) ?_ | refine Rgu.RGO_skip (by exact rfl) (by exact rfl) (by decide +kernel) (by exact rfl) ?_); try simp only [Act.put, List.setIfInBounds_toArray, List.set_cons_zero, List.set_cons_succ])
      refine Rgu.RGO_one 18 [] (by exact rfl) (by decide +kernel) (by exact rfl) (fun K hK => ?_)
      go_wp2_with (fail)
      refine hK _ _ (by rw [EW0.out, hW1, hcs]; exact HC1.out) ?_
      clear hK K
      try simp only [Act.put, List.setIfInBounds_toArray, List.set_cons_zero, List.set_cons_succ]
      refine Rgu.RGO_one 19 [(20, 39), (21, 40)] (by exact rfl) (by decide +kernel) (by exact rfl) (fun K hK => ?_)
      refine Rgu.append_op rfl rfl rfl HRUN.out ?_
      refine hK _ _ (by rw [hcs]; exact HCA.out) ?_
      clear hK K
      try simp only [Act.put, List.setIfInBounds_toArray, List.set_cons_zero, List.set_cons_succ]
      repeat ((first | refine Rgu.RGO_take (by exact rfl) (by exact rfl) (by decide +kernel) (by exact rfl) (by intro w' hw'; obtain ⟨y0, y1⟩ := HOP.out _ hw'; go_simp; try with_reducible rfl) ?_ | refine Rgu.RGO_skip (by exact rfl) (by exact rfl) (by decide +kernel) (by exact rfl) ?_); try simp only [Act.put, List.setIfInBounds_toArray, List.set_cons_zero, List.set_cons_succ])
      refine Rgu.RGO_last 22 (by exact rfl) (by decide +kernel) (by exact rfl) (fun K hK => ?_)
      go_wp2_with (fail)
      try (refine hK _ _ ?_; clear hK K)
      try simp only [Act.put, List.setIfInBounds_toArray, List.set_cons_zero, List.set_cons_succ]
      refine Rgu.RGH_done (by decide +kernel) (hR _ _ ?_)
      clear hR R c2 c4 c5 c8 c9 c10 c14 c15 c16 c18 cf cz
      go_wp2_with fail
      go_end0
      have ht : tell most S n sort = { S with out := S.out ++ [⟨S.told, S.told + n, sort⟩], told := S.told + n, st := 0, bytes := 0, many := 0, letter := Ix.none } := by unfold tell; rw [if_neg (by simp [hov]), if_neg hm]
      rw [ht]
      refine ⟨rfl, St.fin HST.out (Mine.trans (Mine.below HB1.out) (HAU.out.mono fun b _ hh => .inr ⟨HLB.out b hh, seg_block (HR.out.below HB1.out) hh⟩)) HCA.out (v := .slice av2 (S.out.length + 1) cv2) ?_ (by repeat (first | (with_reducible exact Upd.refl _ _) | (with_reducible refine Upd.drew ?_) | (with_reducible refine Upd.setCell ?_ (by intro _; rfl) _))) ?_⟩
      · unfold TRow
        rw [flat_append, List.length_append]
        exact HSG.out
      · unfold cellsC
        exact by simp only [World.setCell, World.drew, Array.getElem?_modify, if_true, HCA.out, Option.map_some, Option.isSome_none, Bool.false_eq_true, if_false, List.setIfInBounds_toArray, List.set_cons_zero, List.set_cons_succ] <;> rfl
end Go.Proofs.YtendkmldecoogaaDoor.StepGo
namespace Go.Proofs.YtendkmldecoogaaDoor.StepGo
open Go Go.RowKit Go.Proofs.YtendkmldecoogaaDoor Go.Proofs.YtendkmldecoogaaDoor.Kit Go.Proofs.YtendkmldecoogaaDoor.Round Go.Proofs.YtendkmldecoogaaDoor.Seg Go.Proofs.YtendkmldecoogaaDoor.Collect Go.Proofs.YtendkmldecoogaaDoor.Dt Go.Proofs.YtendkmldecoogaaDoor.Cu Go.Proofs.YtendkmldecoogaaDoor.CutTokens Go.Proofs.YtendkmldecoogaaDoor.StepLaw Go.Proofs.YtendkmldecoogaaDoor.Scan
attribute [local irreducible] wpQuiet
set_option linter.unusedSimpArgs false

variable {W W' : World} {base cb tb sb most : Nat} {en : Bool} {at' : Nat} {S S' : Sx}

structure Bd (K : Nat) (S : Sx) : Prop where
  told : S.told ≤ K
  bytes : S.bytes ≤ K
  out : S.out.length ≤ K
  many : S.many ≤ K
  letter : S.letter.n ≤ 9
  last : S.last.n ≤ 9
  sp : S.st = 3 → S.last.n ≤ S.bytes

theorem tell_begin (S : Sx) (n s : Nat) : (tell most S n s).over = true ∨ (tell most S n s).st = 0 := by
  unfold tell
  split
  · rename_i h; exact .inl h
  split
  · exact .inl rfl
  · exact .inr rfl


set_option maxHeartbeats 1000000 in
set_option maxRecDepth 100000 in
theorem one_begin (x : Ix) (W : World) (h : St W base cb tb sb most en at' S) (hS : S.over = true ∨ S.st = 0) (hx : x.n ≤ 9) :
    Calls Tryd.prog 87 #[.pointer (some ⟨cb, 0, none⟩), itemV x] W fun e w' => e = .returned (.tuple #[]) ∧ St w' base cb tb sb most en at' (one0 S x) ∧ Upd (Mine W base cb) W w' := by
  obtain ⟨v, hc, hr⟩ := h.cell
  obtain ⟨W1, hW1⟩ : ∃ Xz, W.alloc (.cells #[.int .i64 x.n, .int .i64 x.k, .int .u8 x.c] 147) = Xz := ⟨_, rfl⟩
  obtain ⟨bx, hbx⟩ : ∃ xz, W.heap.size = xz := ⟨_, rfl⟩
  have hb1 : Below W.heap.size W W1 := by rw [← hW1]; exact (Below.refl _ _).alloc (Nat.le_refl _) _
  have HX := Lib.hid (by rw [← hW1, ← hbx]; exact alloc_new rfl : W1.heap[bx]? = some (.cells #[.int .i64 x.n, .int .i64 x.k, .int .u8 x.c] 147 (0, 0)))
  have EW1 := Lib.hid hW1
  have Ebx := Lib.hid hbx
  clear hW1 hbx
  have HST := Lib.hid h
  have HC := Lib.hid ((hb1.block _ (lt_of_heap hc)).trans hc)
  have HR := Lib.hid (hr.below hb1)
  have HB := Lib.hid hb1
  have hne : bx ≠ cb := by have := Ebx.out; have := lt_of_heap hc; omega
  have HNE := Lib.hid hne
  clear h hc hr hb1 hne
  unfold cellsC at HC
  unfold itemV
  have c4 := cell_at HC.out 4
  have c5 := cell_at HC.out 5
  have c11 := cell_at HC.out 11
  have c12 := cell_at HC.out 12
  have c13 := cell_at HC.out 13
  have c14 := cell_at HC.out 14
  have c18 := cell_at HC.out 18
  have cf := free_all HC.out
  have cz := lt_of_heap HC.out
  simp only [List.getElem?_toArray, List.getElem?_cons_zero, List.getElem?_cons_succ] at c4 c5 c11 c12 c13 c14 c18
  have x0 := cell_at HX.out 0
  have x1 := cell_at HX.out 1
  have x2 := cell_at HX.out 2
  have xz := lt_of_heap HX.out
  simp only [List.getElem?_toArray, List.getElem?_cons_zero, List.getElem?_cons_succ] at x0 x1 x2
  cases hov : S.over with
  | true =>
    rw [hov] at c18
    go_enter Tryd.func87, Tryd.ntmps87
    go_upto_region 1 with fail
    rw [EW1.out, Ebx.out]
    go_wp2_with fail
    (try simp only [Exit.inBlock, Exit.then]); refine bodyPost_ret (results_none rfl _ _ _) rfl ?_
    unfold one0
    rw [if_pos hov]
    exact ⟨rfl, HST.out.below HB.out, Mine.below HB.out⟩
  | false =>
    rw [hov] at c18
    have hst : S.st = 0 := by rw [hov] at hS; exact hS.resolve_left (by simp)
    rw [hst] at c4
    by_cases h1 : x.c = 39
    · have h1' : ((x.c : Int) == 39) = true := by simp; omega
      have hne := HNE.out
      have HOP := Lib.hid (fun (w' : World) (hw' : w'.heap[bx]? = some (.cells #[.int .i64 x.n, .int .i64 x.k, .int .u8 x.c] 147 (0, 0))) => (⟨cell_at hw' 0, cell_at hw' 1, cell_at hw' 2⟩ : w'.cell? ⟨bx, 0, none⟩ = some (.int .i64 x.n) ∧ w'.cell? ⟨bx, 1, none⟩ = some (.int .i64 x.k) ∧ w'.cell? ⟨bx, 2, none⟩ = some (.int .u8 x.c)))
      have H1 := Lib.hid h1
      clear h1
      go_enter Tryd.func87, Tryd.ntmps87
      go_upto_region 1 with fail
      rw [EW1.out, Ebx.out]
      go_wp2_with fail
      refine Rgs.RGT_begin (fun w' => w'.heap[bx]? = some (.cells #[.int .i64 x.n, .int .i64 x.k, .int .u8 x.c] 147 (0, 0))) 10 [(0, 19), (1, 20), (2, 21), (3, 22), (4, 23), (5, 24)] (by rfl) (by decide +kernel) (by kernel_rfl) (HX.out) (fun R hR => ?_)
      repeat ((first | refine Rgs.RGT_take (by exact rfl) (by exact rfl) (by decide +kernel) (by exact rfl) (by intro w' hw'; obtain ⟨y0, y1, y2⟩ := HOP.out _ hw'; go_simp; try with_reducible rfl) ?_ | refine Rgs.RGT_skip (by exact rfl) (by exact rfl) (by decide +kernel) (by exact rfl) ?_); try simp only [Act.put, List.setIfInBounds_toArray, List.set_cons_zero, List.set_cons_succ])
      refine Rgs.RGT_one 6 [(7, 25), (8, 26)] (by exact rfl) (by decide +kernel) (by exact rfl) (fun K hK => ?_)
      go_wp2_with (fail)
      refine hK _ _ (by repeat (first | (with_reducible exact HX.out) | (with_reducible refine Rgs.drew_heap ?_) | (with_reducible refine Rgs.set_heap hne ?_))) ?_
      clear hK K
      try simp only [Act.put, List.setIfInBounds_toArray, List.set_cons_zero, List.set_cons_succ]
      repeat ((first | refine Rgs.RGT_take (by exact rfl) (by exact rfl) (by decide +kernel) (by exact rfl) (by intro w' hw'; obtain ⟨y0, y1, y2⟩ := HOP.out _ hw'; go_simp; try with_reducible rfl) ?_ | refine Rgs.RGT_skip (by exact rfl) (by exact rfl) (by decide +kernel) (by exact rfl) ?_); try simp only [Act.put, List.setIfInBounds_toArray, List.set_cons_zero, List.set_cons_succ])
      refine Rgs.RGT_one 9 [] (by exact rfl) (by decide +kernel) (by exact rfl) (fun K hK => ?_)
      go_wp2_with (fail)
      refine hK _ _ (by repeat (first | (with_reducible exact HX.out) | (with_reducible refine Rgs.drew_heap ?_) | (with_reducible refine Rgs.set_heap hne ?_))) ?_
      clear hK K
      try simp only [Act.put, List.setIfInBounds_toArray, List.set_cons_zero, List.set_cons_succ]
      refine Rgs.RGT_done (by decide +kernel) (hR _ _ ?_)
      clear hR R
      go_wp2_with fail
      go_end0
      have ht : one0 S x = { S with st := 1, bytes := x.n } := by unfold one0; rw [if_neg (by simp [hov]), if_pos H1.out]
      rw [ht]
      refine ⟨rfl, St.done HST.out HB.out HC.out HR.out (by repeat (first | (with_reducible exact Upd.refl _ _) | (with_reducible refine Upd.drew ?_) | (with_reducible refine Upd.setCell ?_ (by intro _; rfl) _))) ?_ rfl⟩
      unfold cellsC
      exact by simp only [World.setCell, World.drew, Array.getElem?_modify, if_true, HC.out, Option.map_some, Option.isSome_none, Bool.false_eq_true, if_false, List.setIfInBounds_toArray, List.set_cons_zero, List.set_cons_succ] <;> rfl
    · have h1' : ((x.c : Int) == 39) = false := by simp; omega
      by_cases h2 : x.k = 3
      · have h2' : (x.k == 3) = true := by simp [h2]
        have hne := HNE.out
        have HOP := Lib.hid (fun (w' : World) (hw' : w'.heap[bx]? = some (.cells #[.int .i64 x.n, .int .i64 x.k, .int .u8 x.c] 147 (0, 0))) => (⟨cell_at hw' 0, cell_at hw' 1, cell_at hw' 2⟩ : w'.cell? ⟨bx, 0, none⟩ = some (.int .i64 x.n) ∧ w'.cell? ⟨bx, 1, none⟩ = some (.int .i64 x.k) ∧ w'.cell? ⟨bx, 2, none⟩ = some (.int .u8 x.c)))
        have H1 := Lib.hid h1
        have H2 := Lib.hid h2
        clear h1 h2
        go_enter Tryd.func87, Tryd.ntmps87
        go_upto_region 1 with fail
        rw [EW1.out, Ebx.out]
        go_wp2_with fail
        refine Rgs.RGT_begin (fun w' => w'.heap[bx]? = some (.cells #[.int .i64 x.n, .int .i64 x.k, .int .u8 x.c] 147 (0, 0))) 19 [(0, 31), (1, 32), (2, 33), (3, 34), (4, 35), (6, 37), (5, 36), (7, 38), (8, 39)] (by rfl) (by decide +kernel) (by kernel_rfl) (HX.out) (fun R hR => ?_)
        repeat ((first | refine Rgs.RGT_take (by exact rfl) (by exact rfl) (by decide +kernel) (by exact rfl) (by intro w' hw'; obtain ⟨y0, y1, y2⟩ := HOP.out _ hw'; go_simp; try with_reducible rfl) ?_ | refine Rgs.RGT_skip (by exact rfl) (by exact rfl) (by decide +kernel) (by exact rfl) ?_); try simp only [Act.put, List.setIfInBounds_toArray, List.set_cons_zero, List.set_cons_succ])
        refine Rgs.RGT_one 9 [(10, 40), (11, 41)] (by exact rfl) (by decide +kernel) (by exact rfl) (fun K hK => ?_)
        go_wp2_with (fail)
        refine hK _ _ (by repeat (first | (with_reducible exact HX.out) | (with_reducible refine Rgs.drew_heap ?_) | (with_reducible refine Rgs.set_heap hne ?_))) ?_
        clear hK K
        try simp only [Act.put, List.setIfInBounds_toArray, List.set_cons_zero, List.set_cons_succ]
        repeat ((first | refine Rgs.RGT_take (by exact rfl) (by exact rfl) (by decide +kernel) (by exact rfl) (by intro w' hw'; obtain ⟨y0, y1, y2⟩ := HOP.out _ hw'; go_simp; try with_reducible rfl) ?_ | refine Rgs.RGT_skip (by exact rfl) (by exact rfl) (by decide +kernel) (by exact rfl) ?_); try simp only [Act.put, List.setIfInBounds_toArray, List.set_cons_zero, List.set_cons_succ])
        refine Rgs.RGT_one 12 [(13, 42), (14, 43)] (by exact rfl) (by decide +kernel) (by exact rfl) (fun K hK => ?_)
        go_wp2_with (fail)
        refine hK _ _ (by repeat (first | (with_reducible exact HX.out) | (with_reducible refine Rgs.drew_heap ?_) | (with_reducible refine Rgs.set_heap hne ?_))) ?_
        clear hK K
        try simp only [Act.put, List.setIfInBounds_toArray, List.set_cons_zero, List.set_cons_succ]
        repeat ((first | refine Rgs.RGT_take (by exact rfl) (by exact rfl) (by decide +kernel) (by exact rfl) (by intro w' hw'; obtain ⟨y0, y1, y2⟩ := HOP.out _ hw'; go_simp; try with_reducible rfl) ?_ | refine Rgs.RGT_skip (by exact rfl) (by exact rfl) (by decide +kernel) (by exact rfl) ?_); try simp only [Act.put, List.setIfInBounds_toArray, List.set_cons_zero, List.set_cons_succ])
        refine Rgs.RGT_one 15 [(16, 44), (17, 45)] (by exact rfl) (by decide +kernel) (by exact rfl) (fun K hK => ?_)
        go_wp2_with (fail)
        refine hK _ _ (by repeat (first | (with_reducible exact HX.out) | (with_reducible refine Rgs.drew_heap ?_) | (with_reducible refine Rgs.set_heap hne ?_))) ?_
        clear hK K
        try simp only [Act.put, List.setIfInBounds_toArray, List.set_cons_zero, List.set_cons_succ]
        repeat ((first | refine Rgs.RGT_take (by exact rfl) (by exact rfl) (by decide +kernel) (by exact rfl) (by intro w' hw'; obtain ⟨y0, y1, y2⟩ := HOP.out _ hw'; go_simp; try with_reducible rfl) ?_ | refine Rgs.RGT_skip (by exact rfl) (by exact rfl) (by decide +kernel) (by exact rfl) ?_); try simp only [Act.put, List.setIfInBounds_toArray, List.set_cons_zero, List.set_cons_succ])
        refine Rgs.RGT_one 18 [] (by exact rfl) (by decide +kernel) (by exact rfl) (fun K hK => ?_)
        go_wp2_with (fail)
        refine hK _ _ (by repeat (first | (with_reducible exact HX.out) | (with_reducible refine Rgs.drew_heap ?_) | (with_reducible refine Rgs.set_heap hne ?_))) ?_
        clear hK K
        try simp only [Act.put, List.setIfInBounds_toArray, List.set_cons_zero, List.set_cons_succ]
        refine Rgs.RGT_done (by decide +kernel) (hR _ _ ?_)
        clear hR R
        go_wp2_with fail
        go_end0
        have ht : one0 S x = { S with st := 3, bytes := x.n, last := x, many := 1 } := by unfold one0; rw [if_neg (by simp [hov]), if_neg H1.out, if_pos H2.out]
        rw [ht]
        refine ⟨rfl, St.done HST.out HB.out HC.out HR.out (by repeat (first | (with_reducible exact Upd.refl _ _) | (with_reducible refine Upd.drew ?_) | (with_reducible refine Upd.setCell ?_ (by intro _; rfl) _))) ?_ rfl⟩
        unfold cellsC
        exact by simp only [World.setCell, World.drew, Array.getElem?_modify, if_true, HC.out, Option.map_some, Option.isSome_none, Bool.false_eq_true, if_false, List.setIfInBounds_toArray, List.set_cons_zero, List.set_cons_succ] <;> rfl
      · have h2' : (x.k == 3) = false := by simp [h2]
        have ht : one0 S x = runs S x 0 := by unfold one0; rw [if_neg (by simp [hov]), if_neg h1, if_neg h2]
        have HK := Lib.hid (runs_calls x 0 W1 (HST.out.below HB.out) ⟨by omega, by omega⟩)
        rw [← ht] at HK
        unfold itemV at HK
        clear ht hov h1 h2
        go_enter Tryd.func87, Tryd.ntmps87
        go_upto_region 1 with fail
        rw [EW1.out, Ebx.out]
        go_wp2_with fail
        refine HK.out.mono ?_
        rintro e W2 ⟨rfl, hs2, hu2⟩
        have HS2 := Lib.hid hs2
        have HU2 := Lib.hid (Mine.trans (Mine.below HB.out) hu2)
        clear hs2 hu2 HK
        go_wp2_with fail
        go_end0
        exact ⟨rfl, HS2.out, HU2.out⟩
end Go.Proofs.YtendkmldecoogaaDoor.StepGo
namespace Go.Proofs.YtendkmldecoogaaDoor.StepGo
open Go Go.RowKit Go.Proofs.YtendkmldecoogaaDoor Go.Proofs.YtendkmldecoogaaDoor.Kit Go.Proofs.YtendkmldecoogaaDoor.Round Go.Proofs.YtendkmldecoogaaDoor.Seg Go.Proofs.YtendkmldecoogaaDoor.Collect Go.Proofs.YtendkmldecoogaaDoor.Dt Go.Proofs.YtendkmldecoogaaDoor.Cu Go.Proofs.YtendkmldecoogaaDoor.CutTokens Go.Proofs.YtendkmldecoogaaDoor.StepLaw Go.Proofs.YtendkmldecoogaaDoor.Scan
attribute [local irreducible] wpQuiet
set_option linter.unusedSimpArgs false

variable {W W' : World} {base cb tb sb most : Nat} {en : Bool} {at' : Nat} {S S' : Sx}



set_option maxHeartbeats 1000000 in
set_option maxRecDepth 100000 in
theorem one_run (x : Ix) (W : World) (h : St W base cb tb sb most en at' S) (hS : S.st = 2) (hx : x.n ≤ 9) {K : Nat} (hK : Bd K S) (hk : K ≤ 100000000) (hm : most ≤ 1000000000000) :
    Calls Tryd.prog 87 #[.pointer (some ⟨cb, 0, none⟩), itemV x] W fun e w' => e = .returned (.tuple #[]) ∧ St w' base cb tb sb most en at' (oneR most S x) ∧ Upd (Mine W base cb) W w' := by
  have b1 := hK.told
  have b2 := hK.bytes
  have b3 := hK.out
  obtain ⟨v, hc, hr⟩ := h.cell
  obtain ⟨W1, hW1⟩ : ∃ Xz, W.alloc (.cells #[.int .i64 x.n, .int .i64 x.k, .int .u8 x.c] 147) = Xz := ⟨_, rfl⟩
  obtain ⟨bx, hbx⟩ : ∃ xz, W.heap.size = xz := ⟨_, rfl⟩
  have hb1 : Below W.heap.size W W1 := by rw [← hW1]; exact (Below.refl _ _).alloc (Nat.le_refl _) _
  have HX := Lib.hid (by rw [← hW1, ← hbx]; exact alloc_new rfl : W1.heap[bx]? = some (.cells #[.int .i64 x.n, .int .i64 x.k, .int .u8 x.c] 147 (0, 0)))
  have EW1 := Lib.hid hW1
  have Ebx := Lib.hid hbx
  clear hW1 hbx
  have HST := Lib.hid h
  have HC := Lib.hid ((hb1.block _ (lt_of_heap hc)).trans hc)
  have HR := Lib.hid (hr.below hb1)
  have HB := Lib.hid hb1
  have hne : bx ≠ cb := by have := Ebx.out; have := lt_of_heap hc; omega
  have HNE := Lib.hid hne
  clear h hc hr hb1 hne
  unfold cellsC at HC
  unfold itemV
  rw [hS] at HC
  have c3 := cell_at HC.out 3
  have c4 := cell_at HC.out 4
  have c5 := cell_at HC.out 5
  have c6 := cell_at HC.out 6
  have c7 := cell_at HC.out 7
  have c18 := cell_at HC.out 18
  have cf := free_all HC.out
  have cz := lt_of_heap HC.out
  simp only [List.getElem?_toArray, List.getElem?_cons_zero, List.getElem?_cons_succ] at c3 c4 c5 c6 c7 c18
  have x0 := cell_at HX.out 0
  have x1 := cell_at HX.out 1
  have x2 := cell_at HX.out 2
  have xz := lt_of_heap HX.out
  simp only [List.getElem?_toArray, List.getElem?_cons_zero, List.getElem?_cons_succ] at x0 x1 x2
  cases hov : S.over with
  | true =>
    rw [hov] at c18
    go_enter Tryd.func87, Tryd.ntmps87
    go_upto_region 1 with fail
    rw [EW1.out, Ebx.out]
    go_wp2_with fail
    (try simp only [Exit.inBlock, Exit.then]); refine bodyPost_ret (results_none rfl _ _ _) rfl ?_
    unfold oneR
    rw [if_pos hov]
    exact ⟨rfl, HST.out.below HB.out, Mine.below HB.out⟩
  | false =>
    rw [hov] at c18
    by_cases h1 : x.k = S.kind
    · have h1' : (x.k == S.kind) = true := by simp [h1]
      have H1 := Lib.hid h1
      have hw1 : IntKind.i64.wrap ((S.bytes : Int) + x.n) = ((S.bytes + x.n : Nat) : Int) := by rw [i64w _ (by omega) (by omega)]; omega
      clear h1
      go_enter Tryd.func87, Tryd.ntmps87
      go_upto_region 1 with fail
      rw [EW1.out, Ebx.out]
      go_wp2_with fail
      go_region
      go_wp2_with fail
      refine region_tail 9 (by kernel_rfl) (by kernel_rfl) ?_
      simp only [List.take_succ_cons, List.take_zero, List.drop_succ_cons, List.drop_zero]
      repeat (first | still_step)
      refine wpStill_nil ?_
      go_wp2_with fail
      (try simp only [Exit.inBlock, Exit.then]); refine bodyPost_ret (results_none rfl _ _ _) rfl ?_
      have ht : oneR most S x = { S with bytes := S.bytes + x.n } := by unfold oneR; rw [if_neg (by simp [hov]), if_pos H1.out]
      rw [ht]
      refine ⟨rfl, St.done HST.out HB.out HC.out HR.out (by repeat (first | (with_reducible exact Upd.refl _ _) | (with_reducible refine Upd.drew ?_) | (with_reducible refine Upd.setCell ?_ (by intro _; rfl) _))) ?_ rfl⟩
      unfold cellsC
      rw [show ({ S with bytes := S.bytes + x.n } : Sx).st = 2 from hS]
      exact by simp only [World.setCell, World.drew, Array.getElem?_modify, if_true, HC.out, Option.map_some, Option.isSome_none, Bool.false_eq_true, if_false, List.setIfInBounds_toArray, List.set_cons_zero, List.set_cons_succ] <;> rfl
    · have h1' : (x.k == S.kind) = false := by simp [h1]
      have H1 := Lib.hid h1
      have ht : oneR most S x = one0 (tell most S S.bytes S.sort) x := by unfold oneR; rw [if_neg (by simp [hov]), if_neg h1]
      clear h1
      go_enter Tryd.func87, Tryd.ntmps87
      go_upto_region 1 with fail
      rw [EW1.out, Ebx.out]
      go_wp2_with fail
      go_region
      go_wp2_with fail
      refine region_tail 9 (by kernel_rfl) (by kernel_rfl) ?_
      simp only [List.take_succ_cons, List.take_zero, List.drop_succ_cons, List.drop_zero]
      repeat (first | still_step)
      refine wpStill_nil ?_
      have HHT := Lib.hid ht
      clear ht c3 c4 c5 c6 c7 c18 cf cz x0 x1 x2 xz hov
      obtain ⟨W2, hW2⟩ : ∃ z, W1.drew.drew = z := ⟨_, rfl⟩
      have hb2 : Below W1.heap.size W1 W2 := by rw [← hW2]; exact ((Below.refl _ _).drew).drew
      rw [hW2]
      have HK := Lib.hid (tell_calls S.bytes S.sort W2 ((HST.out.below HB.out).below hb2) ⟨by omega, by omega, hm⟩)
      have HX2 := Lib.hid ((hb2.block _ (lt_of_heap HX.out)).trans HX.out)
      have HB2 := Lib.hid (chain HB.out hb2)
      clear hb2 hW2
      go_wp2_with fail
      refine HK.out.mono ?_
      rintro e W3 ⟨rfl, hs3, hu3⟩
      have HX3 := Lib.hid (Mine.keep hu3 HX2.out HNE.out (by decide))
      obtain ⟨v3, hc3, hr3⟩ := hs3.cell
      have HC3 := Lib.hid hc3
      have HS3 := Lib.hid hs3
      have HU3 := Lib.hid (Mine.trans (Mine.below HB2.out) hu3)
      unfold cellsC at HC3
      clear hc3 hr3 hs3 hu3 HK
      have c3 := cell_at HC3.out 3
      have cz := lt_of_heap HC3.out
      simp only [List.getElem?_toArray, List.getElem?_cons_zero, List.getElem?_cons_succ] at c3
      have x0 := cell_at HX3.out 0
      have x1 := cell_at HX3.out 1
      have x2 := cell_at HX3.out 2
      have xz := lt_of_heap HX3.out
      simp only [List.getElem?_toArray, List.getElem?_cons_zero, List.getElem?_cons_succ] at x0 x1 x2
      go_wp2_with fail
      refine region_tail 5 (by kernel_rfl) (by kernel_rfl) ?_
      simp only [List.take_succ_cons, List.take_zero, List.drop_succ_cons, List.drop_zero]
      repeat (first | still_step)
      refine wpStill_nil ?_
      have hd3 : Below W3.heap.size W3 W3.drew := (Below.refl _ _).drew
      have HK2 := Lib.hid (one_begin x W3.drew (HS3.out.below hd3) (tell_begin S S.bytes S.sort) hx)
      have HD3 := Lib.hid hd3
      unfold itemV at HK2
      clear hd3
      go_wp2_with fail
      refine HK2.out.mono ?_
      rintro e W4 ⟨rfl, hs4, hu4⟩
      have HS4 := Lib.hid hs4
      have HU4 := Lib.hid (Mine.trans HU3.out (Mine.trans (Mine.below HD3.out) hu4))
      clear hs4 hu4 HK2 c3 cz x0 x1 x2 xz
      go_wp2_with fail
      first | go_end0 | ((try simp only [Exit.inBlock, Exit.then]); refine bodyPost_ret (results_none rfl _ _ _) rfl ?_)
      rw [HHT.out]
      exact ⟨rfl, HS4.out, HU4.out⟩
end Go.Proofs.YtendkmldecoogaaDoor.StepGo
namespace Go.Proofs.YtendkmldecoogaaDoor.StepGo
open Go Go.RowKit Go.Proofs.YtendkmldecoogaaDoor Go.Proofs.YtendkmldecoogaaDoor.Kit Go.Proofs.YtendkmldecoogaaDoor.Round Go.Proofs.YtendkmldecoogaaDoor.Seg Go.Proofs.YtendkmldecoogaaDoor.Collect Go.Proofs.YtendkmldecoogaaDoor.Dt Go.Proofs.YtendkmldecoogaaDoor.Cu Go.Proofs.YtendkmldecoogaaDoor.CutTokens Go.Proofs.YtendkmldecoogaaDoor.StepLaw Go.Proofs.YtendkmldecoogaaDoor.Scan
attribute [local irreducible] wpQuiet
set_option linter.unusedSimpArgs false

variable {W W' : World} {base cb tb sb most : Nat} {en : Bool} {at' : Nat} {S S' : Sx}



set_option maxHeartbeats 2000000 in
set_option maxRecDepth 100000 in
theorem parted_calls (x : Ix) (W : World) (h : St W base cb tb sb most en at' S) (hx : x.n ≤ 9) {K : Nat} (hK : Bd K S) (hsp : S.last.n ≤ S.bytes) (hk : K ≤ 100000000) (hm : most ≤ 1000000000000) :
    Calls Tryd.prog 119 #[.pointer (some ⟨cb, 0, none⟩), itemV x] W fun e w' => e = .returned (.tuple #[]) ∧ St w' base cb tb sb most en at' (parted most S x) ∧ Upd (Mine W base cb) W w' := by
  have b1 := hK.told
  have b2 := hK.bytes
  have b3 := hK.out
  have b4 := hK.last
  have b5 := hK.many
  obtain ⟨v, hc, hr⟩ := h.cell
  obtain ⟨W1, hW1⟩ : ∃ Xz, W.alloc (.cells #[.int .i64 x.n, .int .i64 x.k, .int .u8 x.c] 147) = Xz := ⟨_, rfl⟩
  obtain ⟨bx, hbx⟩ : ∃ xz, W.heap.size = xz := ⟨_, rfl⟩
  have hb1 : Below W.heap.size W W1 := by rw [← hW1]; exact (Below.refl _ _).alloc (Nat.le_refl _) _
  have HX := Lib.hid (by rw [← hW1, ← hbx]; exact alloc_new rfl : W1.heap[bx]? = some (.cells #[.int .i64 x.n, .int .i64 x.k, .int .u8 x.c] 147 (0, 0)))
  have EW1 := Lib.hid hW1
  have Ebx := Lib.hid hbx
  clear hW1 hbx
  have HST := Lib.hid h
  have HC := Lib.hid ((hb1.block _ (lt_of_heap hc)).trans hc)
  have HR := Lib.hid (hr.below hb1)
  have HB := Lib.hid hb1
  have hne : bx ≠ cb := by have := Ebx.out; have := lt_of_heap hc; omega
  have HNE := Lib.hid hne
  clear h hc hr hb1 hne
  unfold cellsC at HC
  unfold itemV
  obtain ⟨W1a, hW1a⟩ : ∃ Xz, W1.alloc (.cells #[.int .i64 S.last.n, .int .i64 S.last.k, .int .u8 S.last.c] 147) = Xz := ⟨_, rfl⟩
  obtain ⟨bl, hbl⟩ : ∃ xz, W1.heap.size = xz := ⟨_, rfl⟩
  have hb2 : Below W1.heap.size W1 W1a := by rw [← hW1a]; exact (Below.refl _ _).alloc (Nat.le_refl _) _
  have HL := Lib.hid (by rw [← hW1a, ← hbl]; exact alloc_new rfl : W1a.heap[bl]? = some (.cells #[.int .i64 S.last.n, .int .i64 S.last.k, .int .u8 S.last.c] 147 (0, 0)))
  have EW1a := Lib.hid hW1a
  have Ebl := Lib.hid hbl
  clear hW1a hbl
  have HS1 := Lib.hid ((HST.out.below HB.out).below hb2)
  have HB1 := Lib.hid (chain HB.out hb2)
  have hnl : bl ≠ cb := by have := Ebl.out; have := lt_of_heap HC.out; omega
  have HNL := Lib.hid hnl
  have c11 := cell_at HC.out 11
  have c12 := cell_at HC.out 12
  have c13 := cell_at HC.out 13
  have cz := lt_of_heap HC.out
  simp only [List.getElem?_toArray, List.getElem?_cons_zero, List.getElem?_cons_succ] at c11 c12 c13
  go_enter Tryd.func119, Tryd.ntmps119
  go_upto_region 1 with fail
  rw [EW1.out, Ebx.out]
  go_upto_region 2 with fail
  rw [EW1a.out, Ebl.out]
  have HC := Lib.hid ((hb2.block _ (lt_of_heap HC.out)).trans HC.out)
  have HX := Lib.hid ((hb2.block _ (lt_of_heap HX.out)).trans HX.out)
  clear hb2 hnl c11 c12 c13 cz
  have c5 := cell_at HC.out 5
  have c14 := cell_at HC.out 14
  have cz := lt_of_heap HC.out
  simp only [List.getElem?_toArray, List.getElem?_cons_zero, List.getElem?_cons_succ] at c5 c14
  have HL2 := HL
  by_cases hmy : 1 < S.many
  · have hmi : (1 : Int) < S.many := by omega
    have hw1 : IntKind.i64.wrap ((S.bytes : Int) - S.last.n) = ((S.bytes - S.last.n : Nat) : Int) := by rw [i64w _ (by omega) (by omega)]; omega
    have l0 := cell_at HL.out 0
    have lz := lt_of_heap HL.out
    simp only [List.getElem?_toArray, List.getElem?_cons_zero] at l0
    go_wp2_with fail
    refine region_tail 8 (by kernel_rfl) (by kernel_rfl) ?_
    simp only [List.take_succ_cons, List.take_zero, List.drop_succ_cons, List.drop_zero]
    repeat (first | still_step)
    refine wpStill_nil ?_
    obtain ⟨W1b, hW1b⟩ : ∃ z, W1a.drew = z := ⟨_, rfl⟩
    have hb3 : Below W1a.heap.size W1a W1b := by rw [← hW1b]; exact (Below.refl _ _).drew
    rw [hW1b]
    have HK := Lib.hid (tell_calls (S.bytes - S.last.n) 5 W1b (HS1.out.below hb3) ⟨by omega, by omega, hm⟩)
    have HX := Lib.hid ((hb3.block _ (lt_of_heap HX.out)).trans HX.out)
    have HL := Lib.hid ((hb3.block _ (lt_of_heap HL.out)).trans HL.out)
    have HB2 := Lib.hid (chain HB1.out hb3)
    clear hb3 hW1b c5 c14 cz l0 lz HL2
    go_wp2_with fail
    refine HK.out.mono ?_
    rintro e W2 ⟨rfl, hs3, hu3⟩
    have HX2 := Lib.hid (Mine.keep hu3 HX.out HNE.out (by decide))
    have HL2 := Lib.hid (Mine.keep hu3 HL.out HNL.out (by decide))
    have HU2 := Lib.hid (Mine.trans (Mine.below HB2.out) hu3)
    have HS2 := Lib.hid hs3
    have ho : (tell most S (S.bytes - S.last.n) 5).told ≤ 2 * K ∧ (tell most S (S.bytes - S.last.n) 5).out.length ≤ K + 1 := by
      unfold tell
      split
      · exact ⟨by omega, by omega⟩
      split
      · exact ⟨by simp only; omega, by simp only; omega⟩
      · exact ⟨by simp only; omega, by simp; omega⟩
    have ho1 := ho.1
    have ho2 := ho.2
    clear hs3 hu3 HK ho hw1 hmi
    have l0 := cell_at HL2.out 0
    have l1 := cell_at HL2.out 1
    have l2 := cell_at HL2.out 2
    have lz := lt_of_heap HL2.out
    simp only [List.getElem?_toArray, List.getElem?_cons_zero, List.getElem?_cons_succ] at l0 l1 l2
    have x0 := cell_at HX2.out 0
    have x1 := cell_at HX2.out 1
    have x2 := cell_at HX2.out 2
    have xz := lt_of_heap HX2.out
    simp only [List.getElem?_toArray, List.getElem?_cons_zero, List.getElem?_cons_succ] at x0 x1 x2
    by_cases hl : S.last.c = 32
    · have hl' : ((S.last.c : Int) == 32) = true := by simp; omega
      have HLC := Lib.hid hl
      have HK := Lib.hid (runs_calls x 1 W2 HS2.out ⟨by omega, by omega⟩)
      unfold itemV at HK
      clear hl
      go_wp2_with fail
      refine HK.out.mono ?_
      rintro e W3 ⟨rfl, hs3, hu3⟩
      have HS3 := Lib.hid hs3
      have HU3 := Lib.hid (Mine.trans HU2.out hu3)
      clear hs3 hu3 HK l0 l1 l2 lz x0 x1 x2 xz
      go_wp2_with fail
      (try simp only [Exit.inBlock, Exit.then]); refine bodyPost_ret (results_none rfl _ _ _) rfl ?_
      have ht : parted most S x = runs (tell most S (S.bytes - S.last.n) 5) x 1 := by unfold parted; simp only; rw [if_pos hmy, if_pos HLC.out]
      rw [ht]
      exact ⟨rfl, HS3.out, HU3.out⟩
    · have hl' : ((S.last.c : Int) == 32) = false := by simp; omega
      have HLC := Lib.hid hl
      have HK := Lib.hid (tell_calls S.last.n 5 W2 HS2.out ⟨by omega, by omega, hm⟩)
      clear hl
      go_wp2_with fail
      refine HK.out.mono ?_
      rintro e W3 ⟨rfl, hs3, hu3⟩
      clear x0 x1 x2 xz
      have HX3 := Lib.hid (Mine.keep hu3 HX2.out HNE.out (by decide))
      obtain ⟨v3, hc3, hr3⟩ := hs3.cell
      have HC3 := Lib.hid hc3
      have HS3 := Lib.hid hs3
      have HU3 := Lib.hid (Mine.trans HU2.out hu3)
      unfold cellsC at HC3
      clear hc3 hr3 hs3 hu3 HK
      have c3 := cell_at HC3.out 3
      have cz := lt_of_heap HC3.out
      simp only [List.getElem?_toArray, List.getElem?_cons_zero, List.getElem?_cons_succ] at c3
      have x0 := cell_at HX3.out 0
      have x1 := cell_at HX3.out 1
      have x2 := cell_at HX3.out 2
      have xz := lt_of_heap HX3.out
      simp only [List.getElem?_toArray, List.getElem?_cons_zero, List.getElem?_cons_succ] at x0 x1 x2
      go_wp2_with fail
      refine region_tail 5 (by kernel_rfl) (by kernel_rfl) ?_
      simp only [List.take_succ_cons, List.take_zero, List.drop_succ_cons, List.drop_zero]
      repeat (first | still_step)
      refine wpStill_nil ?_
      have hd3 : Below W3.heap.size W3 W3.drew := (Below.refl _ _).drew
      have HK2 := Lib.hid (one_begin x W3.drew (HS3.out.below hd3) (tell_begin _ _ _) hx)
      have HD3 := Lib.hid hd3
      unfold itemV at HK2
      clear hd3
      go_wp2_with fail
      refine HK2.out.mono ?_
      rintro e W4 ⟨rfl, hs4, hu4⟩
      have HS4 := Lib.hid hs4
      have HU4 := Lib.hid (Mine.trans HU3.out (Mine.trans (Mine.below HD3.out) hu4))
      clear hs4 hu4 HK2 c3 cz x0 x1 x2 xz
      go_wp2_with fail
      first | go_end0 | ((try simp only [Exit.inBlock, Exit.then]); refine bodyPost_ret (results_none rfl _ _ _) rfl ?_)
      rw [show parted most S x = one0 (tell most (tell most S (S.bytes - S.last.n) 5) S.last.n 5) x by unfold parted; simp only; rw [if_pos hmy, if_neg HLC.out]]
      exact ⟨rfl, HS4.out, HU4.out⟩
  · have hmi : ¬ ((1 : Int) < S.many) := by omega
    have HS2 := HS1
    have HX2 := HX
    have HU2 := Lib.hid (Mine.below HB1.out : Upd (Mine W base cb) W W1a)
    generalize W1a = W2 at HS2 HX2 HL2 HU2 c14 c5 cz ⊢
    have l0 := cell_at HL2.out 0
    have l1 := cell_at HL2.out 1
    have l2 := cell_at HL2.out 2
    have lz := lt_of_heap HL2.out
    simp only [List.getElem?_toArray, List.getElem?_cons_zero, List.getElem?_cons_succ] at l0 l1 l2
    have x0 := cell_at HX2.out 0
    have x1 := cell_at HX2.out 1
    have x2 := cell_at HX2.out 2
    have xz := lt_of_heap HX2.out
    simp only [List.getElem?_toArray, List.getElem?_cons_zero, List.getElem?_cons_succ] at x0 x1 x2
    by_cases hl : S.last.c = 32
    · have hl' : ((S.last.c : Int) == 32) = true := by simp; omega
      have HLC := Lib.hid hl
      have HK := Lib.hid (runs_calls x 1 W2 HS2.out ⟨by omega, by omega⟩)
      unfold itemV at HK
      clear hl
      go_wp2_with fail
      refine HK.out.mono ?_
      rintro e W3 ⟨rfl, hs3, hu3⟩
      have HS3 := Lib.hid hs3
      have HU3 := Lib.hid (Mine.trans HU2.out hu3)
      clear hs3 hu3 HK l0 l1 l2 lz x0 x1 x2 xz
      go_wp2_with fail
      (try simp only [Exit.inBlock, Exit.then]); refine bodyPost_ret (results_none rfl _ _ _) rfl ?_
      have ht : parted most S x = runs (S) x 1 := by unfold parted; simp only; rw [if_neg hmy, if_pos HLC.out]
      rw [ht]
      exact ⟨rfl, HS3.out, HU3.out⟩
    · have hl' : ((S.last.c : Int) == 32) = false := by simp; omega
      have HLC := Lib.hid hl
      have HK := Lib.hid (tell_calls S.last.n 5 W2 HS2.out ⟨by omega, by omega, hm⟩)
      clear hl
      go_wp2_with fail
      refine HK.out.mono ?_
      rintro e W3 ⟨rfl, hs3, hu3⟩
      clear x0 x1 x2 xz
      have HX3 := Lib.hid (Mine.keep hu3 HX2.out HNE.out (by decide))
      obtain ⟨v3, hc3, hr3⟩ := hs3.cell
      have HC3 := Lib.hid hc3
      have HS3 := Lib.hid hs3
      have HU3 := Lib.hid (Mine.trans HU2.out hu3)
      unfold cellsC at HC3
      clear hc3 hr3 hs3 hu3 HK
      have c3 := cell_at HC3.out 3
      have cz := lt_of_heap HC3.out
      simp only [List.getElem?_toArray, List.getElem?_cons_zero, List.getElem?_cons_succ] at c3
      have x0 := cell_at HX3.out 0
      have x1 := cell_at HX3.out 1
      have x2 := cell_at HX3.out 2
      have xz := lt_of_heap HX3.out
      simp only [List.getElem?_toArray, List.getElem?_cons_zero, List.getElem?_cons_succ] at x0 x1 x2
      go_wp2_with fail
      refine region_tail 5 (by kernel_rfl) (by kernel_rfl) ?_
      simp only [List.take_succ_cons, List.take_zero, List.drop_succ_cons, List.drop_zero]
      repeat (first | still_step)
      refine wpStill_nil ?_
      have hd3 : Below W3.heap.size W3 W3.drew := (Below.refl _ _).drew
      have HK2 := Lib.hid (one_begin x W3.drew (HS3.out.below hd3) (tell_begin _ _ _) hx)
      have HD3 := Lib.hid hd3
      unfold itemV at HK2
      clear hd3
      go_wp2_with fail
      refine HK2.out.mono ?_
      rintro e W4 ⟨rfl, hs4, hu4⟩
      have HS4 := Lib.hid hs4
      have HU4 := Lib.hid (Mine.trans HU3.out (Mine.trans (Mine.below HD3.out) hu4))
      clear hs4 hu4 HK2 c3 cz x0 x1 x2 xz
      go_wp2_with fail
      first | go_end0 | ((try simp only [Exit.inBlock, Exit.then]); refine bodyPost_ret (results_none rfl _ _ _) rfl ?_)
      rw [show parted most S x = one0 (tell most (S) S.last.n 5) x by unfold parted; simp only; rw [if_neg hmy, if_neg HLC.out]]
      exact ⟨rfl, HS4.out, HU4.out⟩
end Go.Proofs.YtendkmldecoogaaDoor.StepGo
namespace Go.Proofs.YtendkmldecoogaaDoor.StepGo
open Go Go.RowKit Go.Proofs.YtendkmldecoogaaDoor Go.Proofs.YtendkmldecoogaaDoor.Kit Go.Proofs.YtendkmldecoogaaDoor.Round Go.Proofs.YtendkmldecoogaaDoor.Seg Go.Proofs.YtendkmldecoogaaDoor.Collect Go.Proofs.YtendkmldecoogaaDoor.Dt Go.Proofs.YtendkmldecoogaaDoor.Cu Go.Proofs.YtendkmldecoogaaDoor.CutTokens Go.Proofs.YtendkmldecoogaaDoor.StepLaw Go.Proofs.YtendkmldecoogaaDoor.Scan
attribute [local irreducible] wpQuiet
set_option linter.unusedSimpArgs false

variable {W W' : World} {base cb tb sb most : Nat} {en : Bool} {at' : Nat} {S S' : Sx}



set_option maxHeartbeats 2000000 in
set_option maxRecDepth 100000 in
theorem one_spaces (x : Ix) (W : World) (h : St W base cb tb sb most en at' S) (hS : S.st = 3) (hx : x.n ≤ 9) {K : Nat} (hK : Bd K S) (hk : K ≤ 100000000) (hm : most ≤ 1000000000000) :
    Calls Tryd.prog 87 #[.pointer (some ⟨cb, 0, none⟩), itemV x] W fun e w' => e = .returned (.tuple #[]) ∧ St w' base cb tb sb most en at' (oneS most S x) ∧ Upd (Mine W base cb) W w' := by
  have b2 := hK.bytes
  have b5 := hK.many
  have HKP := Lib.hid (fun W h => parted_calls x W h hx hK (hK.sp hS) hk hm : ∀ W, St W base cb tb sb most en at' S → _)
  obtain ⟨v, hc, hr⟩ := h.cell
  obtain ⟨W1, hW1⟩ : ∃ Xz, W.alloc (.cells #[.int .i64 x.n, .int .i64 x.k, .int .u8 x.c] 147) = Xz := ⟨_, rfl⟩
  obtain ⟨bx, hbx⟩ : ∃ xz, W.heap.size = xz := ⟨_, rfl⟩
  have hb1 : Below W.heap.size W W1 := by rw [← hW1]; exact (Below.refl _ _).alloc (Nat.le_refl _) _
  have HX := Lib.hid (by rw [← hW1, ← hbx]; exact alloc_new rfl : W1.heap[bx]? = some (.cells #[.int .i64 x.n, .int .i64 x.k, .int .u8 x.c] 147 (0, 0)))
  have EW1 := Lib.hid hW1
  have Ebx := Lib.hid hbx
  clear hW1 hbx
  have HST := Lib.hid h
  have HC := Lib.hid ((hb1.block _ (lt_of_heap hc)).trans hc)
  have HR := Lib.hid (hr.below hb1)
  have HB := Lib.hid hb1
  have hne : bx ≠ cb := by have := Ebx.out; have := lt_of_heap hc; omega
  have HNE := Lib.hid hne
  clear h hc hr hb1 hne
  unfold cellsC at HC
  unfold itemV
  rw [hS] at HC
  have c3 := cell_at HC.out 3
  have c4 := cell_at HC.out 4
  have c5 := cell_at HC.out 5
  have c11 := cell_at HC.out 11
  have c12 := cell_at HC.out 12
  have c13 := cell_at HC.out 13
  have c14 := cell_at HC.out 14
  have c18 := cell_at HC.out 18
  have cf := free_all HC.out
  have cz := lt_of_heap HC.out
  simp only [List.getElem?_toArray, List.getElem?_cons_zero, List.getElem?_cons_succ] at c3 c4 c5 c11 c12 c13 c14 c18
  have x0 := cell_at HX.out 0
  have x1 := cell_at HX.out 1
  have x2 := cell_at HX.out 2
  have xz := lt_of_heap HX.out
  simp only [List.getElem?_toArray, List.getElem?_cons_zero, List.getElem?_cons_succ] at x0 x1 x2
  cases hov : S.over with
  | true =>
    rw [hov] at c18
    go_enter Tryd.func87, Tryd.ntmps87
    go_upto_region 1 with fail
    rw [EW1.out, Ebx.out]
    go_wp2_with fail
    (try simp only [Exit.inBlock, Exit.then]); refine bodyPost_ret (results_none rfl _ _ _) rfl ?_
    unfold oneS
    rw [if_pos hov]
    exact ⟨rfl, HST.out.below HB.out, Mine.below HB.out⟩
  | false =>
    rw [hov] at c18
    by_cases h1 : x.k = 3
    · have h1' : (x.k == 3) = true := by simp [h1]
      have H1 := Lib.hid h1
      have hw1 : IntKind.i64.wrap ((S.bytes : Int) + x.n) = ((S.bytes + x.n : Nat) : Int) := by rw [i64w _ (by omega) (by omega)]; omega
      have hw2 : IntKind.i64.wrap ((S.many : Int) + 1) = ((S.many + 1 : Nat) : Int) := by rw [i64w _ (by omega) (by omega)]; omega
      have hne := HNE.out
      clear h1
      go_enter Tryd.func87, Tryd.ntmps87
      go_upto_region 1 with fail
      rw [EW1.out, Ebx.out]
      go_wp2_with fail
      refine region_tail 9 (by kernel_rfl) (by kernel_rfl) ?_
      simp only [List.take_succ_cons, List.take_zero, List.drop_succ_cons, List.drop_zero]
      repeat (first | still_step)
      refine wpStill_nil ?_
      go_wp2_with fail
      (try simp only [Exit.inBlock, Exit.then]); refine bodyPost_ret (results_none rfl _ _ _) rfl ?_
      have ht : oneS most S x = { S with bytes := S.bytes + x.n, last := x, many := S.many + 1 } := by unfold oneS; rw [if_neg (by simp [hov]), if_pos H1.out]
      rw [ht]
      refine ⟨rfl, St.done HST.out HB.out HC.out HR.out (by repeat (first | (with_reducible exact Upd.refl _ _) | (with_reducible refine Upd.drew ?_) | (with_reducible refine Upd.setCell ?_ (by intro _; rfl) _))) ?_ rfl⟩
      unfold cellsC
      rw [show ({ S with bytes := S.bytes + x.n, last := x, many := S.many + 1 } : Sx).st = 3 from hS]
      exact by simp only [World.setCell, World.drew, Array.getElem?_modify, if_true, HC.out, Option.map_some, Option.isSome_none, Bool.false_eq_true, if_false, List.setIfInBounds_toArray, List.set_cons_zero, List.set_cons_succ] <;> rfl
    · have h1' : (x.k == 3) = false := by simp [h1]
      have ht : oneS most S x = parted most S x := by unfold oneS; rw [if_neg (by simp [hov]), if_neg h1]
      have HHT := Lib.hid ht
      have HK := Lib.hid (HKP.out W1 (HST.out.below HB.out))
      unfold itemV at HK
      clear h1 ht hov
      go_enter Tryd.func87, Tryd.ntmps87
      go_upto_region 1 with fail
      rw [EW1.out, Ebx.out]
      go_wp2_with fail
      refine HK.out.mono ?_
      rintro e W2 ⟨rfl, hs2, hu2⟩
      have HS2 := Lib.hid hs2
      have HU2 := Lib.hid (Mine.trans (Mine.below HB.out) hu2)
      clear hs2 hu2 HK HKP c3 c4 c5 c11 c12 c13 c14 c18 cf cz x0 x1 x2 xz
      go_wp2_with fail
      go_end0
      rw [HHT.out]
      exact ⟨rfl, HS2.out, HU2.out⟩

set_option maxHeartbeats 2000000 in
set_option maxRecDepth 100000 in
theorem unquoted_calls (W : World) (h : St W base cb tb sb most en at' S) {K : Nat} (hK : Bd K S) (hk : K ≤ 50000000) (hm : most ≤ 1000000000000) :
    Calls Tryd.prog 92 #[.pointer (some ⟨cb, 0, none⟩)] W fun e w' => e = .returned (.tuple #[]) ∧ St w' base cb tb sb most en at' (unq most S) ∧ Upd (Mine W base cb) W w' := by
  have b6 := hK.letter
  have hb2 : Bd (K + 10) (runs { S with letter := Ix.none } ⟨1, 4, 39⟩ 0) := ⟨by have := hK.told; simp only [runs]; omega, by simp only [runs]; omega, by have := hK.out; simp only [runs]; omega, by have := hK.many; simp only [runs]; omega, by simp [runs, Ix.none], hK.last, fun h => by simp [runs] at h⟩
  obtain ⟨v, hc, hr⟩ := h.cell
  obtain ⟨W1, hW1⟩ : ∃ Xz, W.alloc (.cells #[.int .i64 S.letter.n, .int .i64 S.letter.k, .int .u8 S.letter.c] 147) = Xz := ⟨_, rfl⟩
  obtain ⟨bx, hbx⟩ : ∃ xz, W.heap.size = xz := ⟨_, rfl⟩
  have hb1 : Below W.heap.size W W1 := by rw [← hW1]; exact (Below.refl _ _).alloc (Nat.le_refl _) _
  have HX := Lib.hid (by rw [← hW1, ← hbx]; exact alloc_new rfl : W1.heap[bx]? = some (.cells #[.int .i64 S.letter.n, .int .i64 S.letter.k, .int .u8 S.letter.c] 147 (0, 0)))
  have EW1 := Lib.hid hW1
  have Ebx := Lib.hid hbx
  clear hW1 hbx
  have HC0 := Lib.hid hc
  have HC := Lib.hid ((hb1.block _ (lt_of_heap hc)).trans hc)
  have HR := Lib.hid (hr.below hb1)
  have HB := Lib.hid hb1
  have HST := Lib.hid h
  have HNE := Lib.hid (show bx ≠ cb by have := Ebx.out; have := lt_of_heap hc; omega)
  clear hb1 hc hr h
  unfold cellsC at HC HC0
  have c8 := cell_at HC0.out 8
  have c9 := cell_at HC0.out 9
  have c10 := cell_at HC0.out 10
  have cz := lt_of_heap HC0.out
  simp only [List.getElem?_toArray, List.getElem?_cons_zero, List.getElem?_cons_succ] at c8 c9 c10
  go_enter Tryd.func92, Tryd.ntmps92
  go_upto_region 1 with fail
  rw [EW1.out, Ebx.out]
  clear c8 c9 c10 cz
  have c8 := cell_at HC.out 8
  have c9 := cell_at HC.out 9
  have c10 := cell_at HC.out 10
  have cf := free_all HC.out
  have cz := lt_of_heap HC.out
  simp only [List.getElem?_toArray, List.getElem?_cons_zero, List.getElem?_cons_succ] at c8 c9 c10
  go_upto_region 2 with fail
  obtain ⟨Wa, hWa⟩ : ∃ z, ((W1.setCell ⟨cb, 8, none⟩ (.int .i64 0)).setCell ⟨cb, 9, none⟩ (.int .i64 0)).setCell ⟨cb, 10, none⟩ (.int .u8 0) = z := ⟨_, rfl⟩
  have hua : Upd (fun b => b = cb) W1 Wa := by rw [← hWa]; exact by repeat (first | (with_reducible exact Upd.refl _ _) | (with_reducible refine Upd.drew ?_) | (with_reducible refine Upd.setCell ?_ (by intro _; rfl) _))
  have hda := St.done (S' := { S with letter := Ix.none }) HST.out HB.out HC.out HR.out hua (by
    rw [← hWa]
    unfold cellsC
    exact by simp only [World.setCell, World.drew, Array.getElem?_modify, if_true, HC.out, Option.map_some, Option.isSome_none, Bool.false_eq_true, if_false, List.setIfInBounds_toArray, List.set_cons_zero, List.set_cons_succ] <;> rfl) rfl
  rw [hWa]
  have HXA := Lib.hid (Upd.mem hua HX.out HNE.out)
  have HSA := Lib.hid hda.1
  have HUA := Lib.hid hda.2
  have HK := Lib.hid (runs_calls ⟨1, 4, 39⟩ 0 Wa hda.1 ⟨by omega, by decide⟩)
  unfold itemV at HK
  clear hua hda hWa c8 c9 c10 cz cf
  go_wp2_with fail
  refine HK.out.mono ?_
  rintro e W2 ⟨rfl, hs3, hu3⟩
  have HX2 := Lib.hid (Mine.keep hu3 HXA.out HNE.out (by decide))
  have HU2 := Lib.hid (Mine.trans HUA.out hu3)
  have HS2 := Lib.hid hs3
  clear hs3 hu3 HK
  have x0 := cell_at HX2.out 0
  have x1 := cell_at HX2.out 1
  have x2 := cell_at HX2.out 2
  have xz := lt_of_heap HX2.out
  simp only [List.getElem?_toArray, List.getElem?_cons_zero, List.getElem?_cons_succ] at x0 x1 x2
  by_cases hl : 0 < S.letter.n
  · have hl' : (0 : Int) < S.letter.n := by omega
    have HLP := Lib.hid hl
    obtain ⟨v3, hc3, hr3⟩ := HS2.out.cell
    have HC3 := Lib.hid hc3
    unfold cellsC at HC3
    have c3 := cell_at HC3.out 3
    have cz := lt_of_heap HC3.out
    simp only [List.getElem?_toArray, List.getElem?_cons_zero, List.getElem?_cons_succ] at c3
    clear hl hc3 hr3
    go_wp2_with fail
    refine region_tail 5 (by kernel_rfl) (by kernel_rfl) ?_
    simp only [List.take_succ_cons, List.take_zero, List.drop_succ_cons, List.drop_zero]
    repeat (first | still_step)
    refine wpStill_nil ?_
    have hd3 : Below W2.heap.size W2 W2.drew := (Below.refl _ _).drew
    have HK2 := Lib.hid (one_run S.letter W2.drew (HS2.out.below hd3) rfl b6 hb2 (by omega) hm)
    have HD3 := Lib.hid hd3
    unfold itemV at HK2
    clear hd3
    go_wp2_with fail
    refine HK2.out.mono ?_
    rintro e W4 ⟨rfl, hs4, hu4⟩
    have HS4 := Lib.hid hs4
    have HU4 := Lib.hid (Mine.trans HU2.out (Mine.trans (Mine.below HD3.out) hu4))
    clear hs4 hu4 HK2 c3 cz x0 x1 x2 xz
    go_wp2_with fail
    go_end0
    unfold unq
    rw [if_pos HLP.out]
    exact ⟨rfl, HS4.out, HU4.out⟩
  · have hl' : ¬ ((0 : Int) < S.letter.n) := by omega
    have HLP := Lib.hid hl
    clear hl
    go_wp2_with fail
    go_end0
    unfold unq
    rw [if_neg HLP.out]
    exact ⟨rfl, HS2.out, HU2.out⟩

theorem oneA_over {x : Ix} (h : S.over = true) : oneA most S x = S := by
  unfold oneA oneR oneS one0
  simp [h]
/-- An item, no quote ahead. -/
theorem one_any (x : Ix) (W : World) (h : St W base cb tb sb most en at' S) (hS : S.over = true ∨ S.st = 0 ∨ S.st = 2 ∨ S.st = 3) (hx : x.n ≤ 9) {K : Nat} (hK : Bd K S) (hk : K ≤ 100000000) (hm : most ≤ 1000000000000) :
    Calls Tryd.prog 87 #[.pointer (some ⟨cb, 0, none⟩), itemV x] W fun e w' => e = .returned (.tuple #[]) ∧ St w' base cb tb sb most en at' (oneA most S x) ∧ Upd (Mine W base cb) W w' := by
  cases ho : S.over with
  | true =>
    have h1 := one_begin x W h (.inl ho) hx
    rw [one0_over ho] at h1
    rw [oneA_over ho]
    exact h1
  | false =>
    rcases hS with h1 | h1 | h1 | h1
    · rw [ho] at h1; cases h1
    · unfold oneA
      rw [if_neg (by omega), if_neg (by omega)]
      exact one_begin x W h (.inr h1) hx
    · unfold oneA
      rw [if_pos h1]
      exact one_run x W h h1 hx hK hk hm
    · unfold oneA
      rw [if_neg (by omega), if_pos h1]
      exact one_spaces x W h h1 hx hK hk hm
end Go.Proofs.YtendkmldecoogaaDoor.StepGo
namespace Go.Proofs.YtendkmldecoogaaDoor.StepGo
open Go Go.RowKit Go.Proofs.YtendkmldecoogaaDoor Go.Proofs.YtendkmldecoogaaDoor.Kit Go.Proofs.YtendkmldecoogaaDoor.Round Go.Proofs.YtendkmldecoogaaDoor.Seg Go.Proofs.YtendkmldecoogaaDoor.Collect Go.Proofs.YtendkmldecoogaaDoor.Dt Go.Proofs.YtendkmldecoogaaDoor.Cu Go.Proofs.YtendkmldecoogaaDoor.CutTokens Go.Proofs.YtendkmldecoogaaDoor.StepLaw Go.Proofs.YtendkmldecoogaaDoor.Scan
attribute [local irreducible] wpQuiet
set_option linter.unusedSimpArgs false

variable {W W' : World} {base cb tb sb most : Nat} {en : Bool} {at' : Nat} {S S' : Sx}

theorem two_eq {a b : Nat} (ha : a < 256) (hb : b < 256) (p q : UInt8) : ((ByteArray.mk #[UInt8.ofNat a, UInt8.ofNat b]).toList == [p, q]) = decide (a = p.toNat ∧ b = q.toNat) := by
  rw [ByteArray.toList_eq]
  have e : ∀ {a : Nat} (p : UInt8), a < 256 → (UInt8.ofNat a = p ↔ a = p.toNat) := fun {a} p h => by
    constructor
    · intro h1
      rw [← h1, UInt8.toNat_ofNat', Nat.mod_eq_of_lt h]
    · intro h1
      rw [h1]
      simp
  rw [Bool.eq_iff_iff]
  simp [e p ha, e q hb]

theorem one0_ok {x : Ix} {K : Nat} (hx : x.n ≤ 9) (hc : x.c ≠ 39) (hK : Bd K S) : ((one0 S x).over = true ∨ (one0 S x).st = 0 ∨ (one0 S x).st = 2 ∨ (one0 S x).st = 3) ∧ Bd (K + 9) (one0 S x) := by
  have k := hK
  obtain ⟨k1, k2, k3, k4, k5, k6, k7⟩ := k
  unfold one0
  by_cases ho : S.over = true
  · rw [if_pos ho]
    exact ⟨.inl ho, ⟨by omega, by omega, by omega, by omega, k5, k6, k7⟩⟩
  rw [if_neg ho, if_neg hc]
  by_cases h3 : x.k = 3
  · rw [if_pos h3]
    exact ⟨.inr (.inr (.inr rfl)), ⟨by simp only; omega, by simp only; omega, by simp only; omega, by simp only; omega, k5, hx, fun _ => Nat.le_refl _⟩⟩
  · rw [if_neg h3]
    exact ⟨.inr (.inr (.inl rfl)), ⟨by simp only [runs]; omega, by simp only [runs]; omega, by simp only [runs]; omega, by simp only [runs]; omega, k5, k6, fun h => by simp [runs] at h⟩⟩
theorem tell_bd {K n s : Nat} (hK : Bd K S) (hn : n ≤ 9) : Bd (K + 9) (tell most S n s) := by
  obtain ⟨k1, k2, k3, k4, k5, k6, k7⟩ := hK
  unfold tell
  split
  · exact ⟨by omega, by omega, by omega, by omega, k5, k6, k7⟩
  split
  · exact ⟨by simp only; omega, by simp only; omega, by simp only; omega, by simp only; omega, k5, k6, k7⟩
  · exact ⟨by simp only; omega, Nat.zero_le _, by simp; omega, Nat.zero_le _, by simp [Ix.none], k6, fun h => by simp at h⟩
theorem unq_ok {K : Nat} (hc : S.letter.c ≠ 39) (hK : Bd K S) : ((unq most S).over = true ∨ (unq most S).st = 0 ∨ (unq most S).st = 2 ∨ (unq most S).st = 3) ∧ Bd (K + 30) (unq most S) := by
  have k := hK
  obtain ⟨k1, k2, k3, k4, k5, k6, k7⟩ := k
  have hr : Bd (K + 9) (runs { S with letter := Ix.none } ⟨1, 4, 39⟩ 0) := ⟨by simp only [runs]; omega, by simp only [runs]; omega, by simp only [runs]; omega, by simp only [runs]; omega, by simp [runs, Ix.none], k6, fun h => by simp [runs] at h⟩
  have up : ∀ {A : Nat} {T : Sx}, A ≤ K + 30 → Bd A T → Bd (K + 30) T := fun h hb => ⟨by have := hb.told; omega, by have := hb.bytes; omega, by have := hb.out; omega, by have := hb.many; omega, hb.letter, hb.last, hb.sp⟩
  obtain ⟨T, hT⟩ : ∃ T, runs { S with letter := Ix.none } ⟨1, 4, 39⟩ 0 = T := ⟨_, rfl⟩
  have hst : T.st = 2 := by rw [← hT]; rfl
  have hby : T.bytes = 1 := by rw [← hT]; rfl
  unfold unq
  rw [hT] at hr ⊢
  split
  · unfold oneR
    split
    · rename_i ho
      exact ⟨.inl ho, up (by omega) hr⟩
    split
    · exact ⟨.inr (.inr (.inl hst)), ⟨by have := hr.told; simp only; omega, by have := hr.bytes; simp only; omega, by have := hr.out; simp only; omega, by have := hr.many; simp only; omega, hr.letter, hr.last, fun h => by simp only at h; omega⟩⟩
    · have h1 := tell_bd (most := most) (s := T.sort) hr (show T.bytes ≤ 9 by omega)
      have h2 := one0_ok k5 hc h1
      exact ⟨h2.1, up (by omega) h2.2⟩
  · exact ⟨.inr (.inr (.inl hst)), up (by omega) hr⟩




set_option maxHeartbeats 2000000 in
set_option maxRecDepth 100000 in
theorem behind_calls (x : Ix) (W : World) (h : St W base cb tb sb most en at' S) (hx : x.n ≤ 9) (hxc : x.c < 256) {K : Nat} (hK : Bd K S) (hk : K ≤ 10000000) (hm : most ≤ 1000000000000)
    (hlt : S.letter = Ix.none ∨ (0 < S.letter.n ∧ (S.letter.c = 114 ∨ S.letter.c = 118 ∨ S.letter.c = 108))) :
    Calls Tryd.prog 118 #[.pointer (some ⟨cb, 0, none⟩), itemV x] W fun e w' => e = .returned (.tuple #[]) ∧ St w' base cb tb sb most en at' (behind most S x) ∧ Upd (Mine W base cb) W w' := by
  have b1 := hK.told
  have b3 := hK.out
  have hlc : S.letter.c < 256 := by
    rcases hlt with h | ⟨_, h⟩
    · rw [h]; decide
    · omega
  have HUQ := Lib.hid (unq_ok (most := most) (S := S) (by
    rcases hlt with h | ⟨_, h⟩
    · rw [h]; decide
    · omega) hK)
  obtain ⟨n, k, c⟩ := x
  obtain ⟨v, hc, hr⟩ := h.cell
  obtain ⟨W1, hW1⟩ : ∃ Xz, W.alloc (.cells #[.int .i64 n, .int .i64 k, .int .u8 c] 147) = Xz := ⟨_, rfl⟩
  obtain ⟨bx, hbx⟩ : ∃ xz, W.heap.size = xz := ⟨_, rfl⟩
  have hb1 : Below W.heap.size W W1 := by rw [← hW1]; exact (Below.refl _ _).alloc (Nat.le_refl _) _
  have HX := Lib.hid (by rw [← hW1, ← hbx]; exact alloc_new rfl : W1.heap[bx]? = some (.cells #[.int .i64 n, .int .i64 k, .int .u8 c] 147 (0, 0)))
  have EW1 := Lib.hid hW1
  have Ebx := Lib.hid hbx
  clear hW1 hbx
  have HST := Lib.hid h
  have HC := Lib.hid ((hb1.block _ (lt_of_heap hc)).trans hc)
  have HB := Lib.hid hb1
  have HNE := Lib.hid (show bx ≠ cb by have := Ebx.out; have := lt_of_heap hc; omega)
  have HR := Lib.hid (hr.below hb1)
  clear h hc hr hb1
  unfold cellsC at HC
  unfold itemV
  obtain ⟨W1a, hW1a⟩ : ∃ Xz, W1.alloc (.cells #[.int .u8 S.letter.c, .int .u8 c] 5) = Xz := ⟨_, rfl⟩
  obtain ⟨bs, hbs⟩ : ∃ xz, W1.heap.size = xz := ⟨_, rfl⟩
  have hb2 : Below W1.heap.size W1 W1a := by rw [← hW1a]; exact (Below.refl _ _).alloc (Nat.le_refl _) _
  have HSB := Lib.hid (by rw [← hW1a, ← hbs]; exact alloc_new rfl : W1a.heap[bs]? = some (.cells #[.int .u8 S.letter.c, .int .u8 c] 5 (0, 0)))
  have EW1a := Lib.hid hW1a
  have Ebs := Lib.hid hbs
  clear hW1a hbs
  obtain ⟨W2, hW2⟩ : ∃ z, W1a.drew = z := ⟨_, rfl⟩
  have hb3 : Below W1.heap.size W1 W2 := hW2 ▸ hb2.drew
  have HSB2 := Lib.hid (show W2.heap[bs]? = some (.cells #[.int .u8 S.letter.c, .int .u8 c] 5 (0, 0)) from hW2 ▸ HSB.out)
  have hbs : BSeg W2 0 (.slice (some ⟨bs, 0, none⟩) 2 2) [UInt8.ofNat S.letter.c, UInt8.ofNat c] := by
    refine ⟨rfl, .inr ⟨bs, 0, 2, _, rfl, Nat.zero_le _, HSB2.out, Nat.le_refl _, by decide, by simp, ?_⟩⟩
    simp [bytesV, UInt8.toNat_ofNat', Nat.mod_eq_of_lt hlc, Nat.mod_eq_of_lt hxc]
  have hcv := BSeg.text hbs
  have c8 := cell_at HC.out 8
  have c9 := cell_at HC.out 9
  have c10 := cell_at HC.out 10
  have cf := free_all HC.out
  have cz := lt_of_heap HC.out
  simp only [List.getElem?_toArray, List.getElem?_cons_zero, List.getElem?_cons_succ] at c8 c9 c10
  have x0 := cell_at HX.out 0
  have x1 := cell_at HX.out 1
  have x2 := cell_at HX.out 2
  have xz := lt_of_heap HX.out
  simp only [List.getElem?_toArray, List.getElem?_cons_zero, List.getElem?_cons_succ] at x0 x1 x2
  go_enter Tryd.func118, Tryd.ntmps118
  go_upto_region 1 with fail
  rw [EW1.out, Ebx.out]
  refine region_tail 7 (by kernel_rfl) (by kernel_rfl) ?_
  simp only [List.take_succ_cons, List.take_zero, List.drop_succ_cons, List.drop_zero]
  repeat (first | still_step)
  refine wpStill_nil ?_
  rw [← hW2, ← EW1a.out, ← Ebs.out] at hcv
  clear c8 c9 c10 cf cz x0 x1 x2 xz
  go_upto_region 4 with fail
  rw [EW1a.out, hW2]
  have HS2 := Lib.hid ((HST.out.below HB.out).below hb3)
  have HU2 := Lib.hid (Mine.below (chain HB.out hb3) : Upd (Mine W base cb) W W2)
  have HX2 := Lib.hid ((hb3.block _ (lt_of_heap HX.out)).trans HX.out)
  have HC2 := Lib.hid ((hb3.block _ (lt_of_heap HC.out)).trans HC.out)
  have HR2 := Lib.hid (HR.out.below hb3)
  have HB2 := Lib.hid (chain HB.out hb3)
  clear hb3 hb2 hbs hcv hW2
  obtain ⟨s, hs⟩ : ∃ s : ByteArray, ⟨#[UInt8.ofNat S.letter.c, UInt8.ofNat c]⟩ = s := ⟨_, rfl⟩
  rw [hs]
  have c8 := cell_at HC2.out 8
  have c9 := cell_at HC2.out 9
  have c10 := cell_at HC2.out 10
  have cf := free_all HC2.out
  have cz := lt_of_heap HC2.out
  simp only [List.getElem?_toArray, List.getElem?_cons_zero, List.getElem?_cons_succ] at c8 c9 c10
  have x0 := cell_at HX2.out 0
  have x1 := cell_at HX2.out 1
  have x2 := cell_at HX2.out 2
  have xz := lt_of_heap HX2.out
  simp only [List.getElem?_toArray, List.getElem?_cons_zero, List.getElem?_cons_succ] at x0 x1 x2
  have HHS := Lib.hid hs
  clear hs
  rcases hlt with hl | ⟨hl, hl3⟩
  · have hn0 : S.letter.n = 0 := by rw [hl]; rfl
    have hc0 : S.letter.c = 0 := by rw [hl]; rfl
    rw [hn0] at c8
    clear hl
    by_cases q115 : c = 115
    · subst q115
      go_wp2_with fail
      refine (tell_calls 2 1 W2 HS2.out ⟨by omega, by omega, hm⟩).mono ?_
      rintro e W3 ⟨rfl, hs3, hu3⟩
      have HS3 := Lib.hid hs3
      have HU3 := Lib.hid (Mine.trans HU2.out hu3)
      clear hs3 hu3 c8 c9 c10 cf cz x0 x1 x2 xz
      go_wp2_with fail
      go_end0
      rw [show behind most S ⟨n, k, 115⟩ = tell most S 2 1 by unfold behind; rw [if_pos ⟨hn0, by simp⟩]]
      exact ⟨rfl, HS3.out, HU3.out⟩
    by_cases q116 : c = 116
    · subst q116
      go_wp2_with fail
      refine (tell_calls 2 1 W2 HS2.out ⟨by omega, by omega, hm⟩).mono ?_
      rintro e W3 ⟨rfl, hs3, hu3⟩
      have HS3 := Lib.hid hs3
      have HU3 := Lib.hid (Mine.trans HU2.out hu3)
      clear hs3 hu3 c8 c9 c10 cf cz x0 x1 x2 xz
      go_wp2_with fail
      go_end0
      rw [show behind most S ⟨n, k, 116⟩ = tell most S 2 1 by unfold behind; rw [if_pos ⟨hn0, by simp⟩]]
      exact ⟨rfl, HS3.out, HU3.out⟩
    by_cases q109 : c = 109
    · subst q109
      go_wp2_with fail
      refine (tell_calls 2 1 W2 HS2.out ⟨by omega, by omega, hm⟩).mono ?_
      rintro e W3 ⟨rfl, hs3, hu3⟩
      have HS3 := Lib.hid hs3
      have HU3 := Lib.hid (Mine.trans HU2.out hu3)
      clear hs3 hu3 c8 c9 c10 cf cz x0 x1 x2 xz
      go_wp2_with fail
      go_end0
      rw [show behind most S ⟨n, k, 109⟩ = tell most S 2 1 by unfold behind; rw [if_pos ⟨hn0, by simp⟩]]
      exact ⟨rfl, HS3.out, HU3.out⟩
    by_cases q100 : c = 100
    · subst q100
      go_wp2_with fail
      refine (tell_calls 2 1 W2 HS2.out ⟨by omega, by omega, hm⟩).mono ?_
      rintro e W3 ⟨rfl, hs3, hu3⟩
      have HS3 := Lib.hid hs3
      have HU3 := Lib.hid (Mine.trans HU2.out hu3)
      clear hs3 hu3 c8 c9 c10 cf cz x0 x1 x2 xz
      go_wp2_with fail
      go_end0
      rw [show behind most S ⟨n, k, 100⟩ = tell most S 2 1 by unfold behind; rw [if_pos ⟨hn0, by simp⟩]]
      exact ⟨rfl, HS3.out, HU3.out⟩
    by_cases q114 : c = 114
    · subst q114
      go_wp2_with fail
      go_end0
      rw [show behind most S ⟨n, k, 114⟩ = { S with letter := ⟨n, k, 114⟩ } by unfold behind; rw [if_neg (by simp), if_pos ⟨hn0, by simp⟩]]
      refine ⟨rfl, St.done HST.out HB2.out HC2.out HR2.out (by repeat (first | (with_reducible exact Upd.refl _ _) | (with_reducible refine Upd.drew ?_) | (with_reducible refine Upd.setCell ?_ (by intro _; rfl) _))) ?_ rfl⟩
      unfold cellsC
      exact by simp only [World.setCell, World.drew, Array.getElem?_modify, if_true, HC2.out, Option.map_some, Option.isSome_none, Bool.false_eq_true, if_false, List.setIfInBounds_toArray, List.set_cons_zero, List.set_cons_succ] <;> rfl
    by_cases q118 : c = 118
    · subst q118
      go_wp2_with fail
      go_end0
      rw [show behind most S ⟨n, k, 118⟩ = { S with letter := ⟨n, k, 118⟩ } by unfold behind; rw [if_neg (by simp), if_pos ⟨hn0, by simp⟩]]
      refine ⟨rfl, St.done HST.out HB2.out HC2.out HR2.out (by repeat (first | (with_reducible exact Upd.refl _ _) | (with_reducible refine Upd.drew ?_) | (with_reducible refine Upd.setCell ?_ (by intro _; rfl) _))) ?_ rfl⟩
      unfold cellsC
      exact by simp only [World.setCell, World.drew, Array.getElem?_modify, if_true, HC2.out, Option.map_some, Option.isSome_none, Bool.false_eq_true, if_false, List.setIfInBounds_toArray, List.set_cons_zero, List.set_cons_succ] <;> rfl
    by_cases q108 : c = 108
    · subst q108
      go_wp2_with fail
      go_end0
      rw [show behind most S ⟨n, k, 108⟩ = { S with letter := ⟨n, k, 108⟩ } by unfold behind; rw [if_neg (by simp), if_pos ⟨hn0, by simp⟩]]
      refine ⟨rfl, St.done HST.out HB2.out HC2.out HR2.out (by repeat (first | (with_reducible exact Upd.refl _ _) | (with_reducible refine Upd.drew ?_) | (with_reducible refine Upd.setCell ?_ (by intro _; rfl) _))) ?_ rfl⟩
      unfold cellsC
      exact by simp only [World.setCell, World.drew, Array.getElem?_modify, if_true, HC2.out, Option.map_some, Option.isSome_none, Bool.false_eq_true, if_false, List.setIfInBounds_toArray, List.set_cons_zero, List.set_cons_succ] <;> rfl
    have e1 : ((c : Int) == 115) = false := by simp; omega
    have e2 : ((c : Int) == 116) = false := by simp; omega
    have e3 : ((c : Int) == 109) = false := by simp; omega
    have e4 : ((c : Int) == 100) = false := by simp; omega
    have e5 : ((c : Int) == 114) = false := by simp; omega
    have e6 : ((c : Int) == 118) = false := by simp; omega
    have e7 : ((c : Int) == 108) = false := by simp; omega
    have f1 : (s.toList == [114, 101]) = false := by rw [← HHS.out, two_eq hlc hxc]; simp [hc0]
    have gf1 : ¬ s.toList = [114, 101] := by simpa using f1
    have f2 : (s.toList == [118, 101]) = false := by rw [← HHS.out, two_eq hlc hxc]; simp [hc0]
    have gf2 : ¬ s.toList = [118, 101] := by simpa using f2
    have f3 : (s.toList == [108, 108]) = false := by rw [← HHS.out, two_eq hlc hxc]; simp [hc0]
    have gf3 : ¬ s.toList = [108, 108] := by simpa using f3
    have HE := Lib.hid (show behind most S ⟨n, k, c⟩ = oneA most (unq most S) ⟨n, k, c⟩ by
      unfold behind
      rw [if_neg (by simp only; omega), if_neg (by simp only; omega), if_neg (by rw [hc0]; simp)])
    clear q115 q116 q109 q100 q114 q118 q108 hn0 hc0
    go_wp2_with fail
    refine (unquoted_calls W2 HS2.out hK (by omega) hm).mono ?_
    rintro e W3 ⟨rfl, hs3, hu3⟩
    have HK := Lib.hid True.intro
    clear c8 c9 c10 cf cz x0 x1 x2 xz
    have HX3 := Lib.hid (Mine.keep hu3 HX2.out HNE.out (by decide))
    obtain ⟨v3, hc3, hr3⟩ := hs3.cell
    have HC3 := Lib.hid hc3
    have HS3 := Lib.hid hs3
    have HU3 := Lib.hid (Mine.trans HU2.out hu3)
    unfold cellsC at HC3
    clear hc3 hr3 hs3 hu3 HK
    have c3 := cell_at HC3.out 3
    have cz := lt_of_heap HC3.out
    simp only [List.getElem?_toArray, List.getElem?_cons_zero, List.getElem?_cons_succ] at c3
    have x0 := cell_at HX3.out 0
    have x1 := cell_at HX3.out 1
    have x2 := cell_at HX3.out 2
    have xz := lt_of_heap HX3.out
    simp only [List.getElem?_toArray, List.getElem?_cons_zero, List.getElem?_cons_succ] at x0 x1 x2
    go_wp2_with fail
    refine region_tail 5 (by kernel_rfl) (by kernel_rfl) ?_
    simp only [List.take_succ_cons, List.take_zero, List.drop_succ_cons, List.drop_zero]
    repeat (first | still_step)
    refine wpStill_nil ?_
    have hd3 : Below W3.heap.size W3 W3.drew := (Below.refl _ _).drew
    have HK2 := Lib.hid (one_any ⟨n, k, c⟩ W3.drew (HS3.out.below hd3) HUQ.out.1 hx HUQ.out.2 (by omega) hm)
    have HD3 := Lib.hid hd3
    unfold itemV at HK2
    clear hd3
    go_wp2_with fail
    refine HK2.out.mono ?_
    rintro e W4 ⟨rfl, hs4, hu4⟩
    have HS4 := Lib.hid hs4
    have HU4 := Lib.hid (Mine.trans HU3.out (Mine.trans (Mine.below HD3.out) hu4))
    clear hs4 hu4 HK2 c3 cz x0 x1 x2 xz
    go_wp2_with fail
    first | go_end0 | ((try simp only [Exit.inBlock, Exit.then]); refine bodyPost_ret (results_none rfl _ _ _) rfl ?_)
    rw [HE.out]
    exact ⟨rfl, HS4.out, HU4.out⟩
  · have hl0 : ((S.letter.n : Int) == 0) = false := by simp; omega
    rcases hl3 with hl3 | hl3 | hl3
    · skip
      by_cases q : c = 101
      · subst q
        have HE := Lib.hid (show behind most S ⟨n, k, 101⟩ = tell most S 3 1 by
          unfold behind
          rw [if_neg (by omega), if_neg (by omega), if_pos (by simp [hl3])])
        have f1' : (s.toList == [114, 101]) = true := by rw [← HHS.out, two_eq hlc hxc]; simp [hl3]
        clear hl3
        have f1 : (s.toList == [114, 101]) = true := f1'
        have gf1 : s.toList = [114, 101] := by simpa using f1
        go_wp2_with fail
        refine (tell_calls 3 1 W2 HS2.out ⟨by omega, by omega, hm⟩).mono ?_
        rintro e W3 ⟨rfl, hs3, hu3⟩
        have HS3 := Lib.hid hs3
        have HU3 := Lib.hid (Mine.trans HU2.out hu3)
        clear hs3 hu3 c8 c9 c10 cf cz x0 x1 x2 xz
        go_wp2_with fail
        go_end0
        rw [HE.out]
        exact ⟨rfl, HS3.out, HU3.out⟩
      · have HE := Lib.hid (show behind most S ⟨n, k, c⟩ = oneA most (unq most S) ⟨n, k, c⟩ by
          unfold behind
          rw [if_neg (by omega), if_neg (by omega), if_neg (by simp only; omega)])
        have f1 : (s.toList == [114, 101]) = false := by rw [← HHS.out, two_eq hlc hxc, decide_eq_false_iff_not]; simp; omega
        have gf1 : ¬ s.toList = [114, 101] := by simpa using f1
        have f2 : (s.toList == [118, 101]) = false := by rw [← HHS.out, two_eq hlc hxc, decide_eq_false_iff_not]; simp; omega
        have gf2 : ¬ s.toList = [118, 101] := by simpa using f2
        have f3 : (s.toList == [108, 108]) = false := by rw [← HHS.out, two_eq hlc hxc, decide_eq_false_iff_not]; simp; omega
        have gf3 : ¬ s.toList = [108, 108] := by simpa using f3
        clear hl3 q
        go_wp2_with fail
        refine (unquoted_calls W2 HS2.out hK (by omega) hm).mono ?_
        rintro e W3 ⟨rfl, hs3, hu3⟩
        have HK := Lib.hid True.intro
        clear c8 c9 c10 cf cz x0 x1 x2 xz
        have HX3 := Lib.hid (Mine.keep hu3 HX2.out HNE.out (by decide))
        obtain ⟨v3, hc3, hr3⟩ := hs3.cell
        have HC3 := Lib.hid hc3
        have HS3 := Lib.hid hs3
        have HU3 := Lib.hid (Mine.trans HU2.out hu3)
        unfold cellsC at HC3
        clear hc3 hr3 hs3 hu3 HK
        have c3 := cell_at HC3.out 3
        have cz := lt_of_heap HC3.out
        simp only [List.getElem?_toArray, List.getElem?_cons_zero, List.getElem?_cons_succ] at c3
        have x0 := cell_at HX3.out 0
        have x1 := cell_at HX3.out 1
        have x2 := cell_at HX3.out 2
        have xz := lt_of_heap HX3.out
        simp only [List.getElem?_toArray, List.getElem?_cons_zero, List.getElem?_cons_succ] at x0 x1 x2
        go_wp2_with fail
        refine region_tail 5 (by kernel_rfl) (by kernel_rfl) ?_
        simp only [List.take_succ_cons, List.take_zero, List.drop_succ_cons, List.drop_zero]
        repeat (first | still_step)
        refine wpStill_nil ?_
        have hd3 : Below W3.heap.size W3 W3.drew := (Below.refl _ _).drew
        have HK2 := Lib.hid (one_any ⟨n, k, c⟩ W3.drew (HS3.out.below hd3) HUQ.out.1 hx HUQ.out.2 (by omega) hm)
        have HD3 := Lib.hid hd3
        unfold itemV at HK2
        clear hd3
        go_wp2_with fail
        refine HK2.out.mono ?_
        rintro e W4 ⟨rfl, hs4, hu4⟩
        have HS4 := Lib.hid hs4
        have HU4 := Lib.hid (Mine.trans HU3.out (Mine.trans (Mine.below HD3.out) hu4))
        clear hs4 hu4 HK2 c3 cz x0 x1 x2 xz
        go_wp2_with fail
        first | go_end0 | ((try simp only [Exit.inBlock, Exit.then]); refine bodyPost_ret (results_none rfl _ _ _) rfl ?_)
        rw [HE.out]
        exact ⟨rfl, HS4.out, HU4.out⟩
    · skip
      by_cases q : c = 101
      · subst q
        have HE := Lib.hid (show behind most S ⟨n, k, 101⟩ = tell most S 3 1 by
          unfold behind
          rw [if_neg (by omega), if_neg (by omega), if_pos (by simp [hl3])])
        have f1' : (s.toList == [114, 101]) = false := by rw [← HHS.out, two_eq hlc hxc]; simp [hl3]
        have f2' : (s.toList == [118, 101]) = true := by rw [← HHS.out, two_eq hlc hxc]; simp [hl3]
        clear hl3
        have f1 : (s.toList == [114, 101]) = false := f1'
        have gf1 : ¬ s.toList = [114, 101] := by simpa using f1
        have f2 : (s.toList == [118, 101]) = true := f2'
        have gf2 : s.toList = [118, 101] := by simpa using f2
        go_wp2_with fail
        refine (tell_calls 3 1 W2 HS2.out ⟨by omega, by omega, hm⟩).mono ?_
        rintro e W3 ⟨rfl, hs3, hu3⟩
        have HS3 := Lib.hid hs3
        have HU3 := Lib.hid (Mine.trans HU2.out hu3)
        clear hs3 hu3 c8 c9 c10 cf cz x0 x1 x2 xz
        go_wp2_with fail
        go_end0
        rw [HE.out]
        exact ⟨rfl, HS3.out, HU3.out⟩
      · have HE := Lib.hid (show behind most S ⟨n, k, c⟩ = oneA most (unq most S) ⟨n, k, c⟩ by
          unfold behind
          rw [if_neg (by omega), if_neg (by omega), if_neg (by simp only; omega)])
        have f1 : (s.toList == [114, 101]) = false := by rw [← HHS.out, two_eq hlc hxc, decide_eq_false_iff_not]; simp; omega
        have gf1 : ¬ s.toList = [114, 101] := by simpa using f1
        have f2 : (s.toList == [118, 101]) = false := by rw [← HHS.out, two_eq hlc hxc, decide_eq_false_iff_not]; simp; omega
        have gf2 : ¬ s.toList = [118, 101] := by simpa using f2
        have f3 : (s.toList == [108, 108]) = false := by rw [← HHS.out, two_eq hlc hxc, decide_eq_false_iff_not]; simp; omega
        have gf3 : ¬ s.toList = [108, 108] := by simpa using f3
        clear hl3 q
        go_wp2_with fail
        refine (unquoted_calls W2 HS2.out hK (by omega) hm).mono ?_
        rintro e W3 ⟨rfl, hs3, hu3⟩
        have HK := Lib.hid True.intro
        clear c8 c9 c10 cf cz x0 x1 x2 xz
        have HX3 := Lib.hid (Mine.keep hu3 HX2.out HNE.out (by decide))
        obtain ⟨v3, hc3, hr3⟩ := hs3.cell
        have HC3 := Lib.hid hc3
        have HS3 := Lib.hid hs3
        have HU3 := Lib.hid (Mine.trans HU2.out hu3)
        unfold cellsC at HC3
        clear hc3 hr3 hs3 hu3 HK
        have c3 := cell_at HC3.out 3
        have cz := lt_of_heap HC3.out
        simp only [List.getElem?_toArray, List.getElem?_cons_zero, List.getElem?_cons_succ] at c3
        have x0 := cell_at HX3.out 0
        have x1 := cell_at HX3.out 1
        have x2 := cell_at HX3.out 2
        have xz := lt_of_heap HX3.out
        simp only [List.getElem?_toArray, List.getElem?_cons_zero, List.getElem?_cons_succ] at x0 x1 x2
        go_wp2_with fail
        refine region_tail 5 (by kernel_rfl) (by kernel_rfl) ?_
        simp only [List.take_succ_cons, List.take_zero, List.drop_succ_cons, List.drop_zero]
        repeat (first | still_step)
        refine wpStill_nil ?_
        have hd3 : Below W3.heap.size W3 W3.drew := (Below.refl _ _).drew
        have HK2 := Lib.hid (one_any ⟨n, k, c⟩ W3.drew (HS3.out.below hd3) HUQ.out.1 hx HUQ.out.2 (by omega) hm)
        have HD3 := Lib.hid hd3
        unfold itemV at HK2
        clear hd3
        go_wp2_with fail
        refine HK2.out.mono ?_
        rintro e W4 ⟨rfl, hs4, hu4⟩
        have HS4 := Lib.hid hs4
        have HU4 := Lib.hid (Mine.trans HU3.out (Mine.trans (Mine.below HD3.out) hu4))
        clear hs4 hu4 HK2 c3 cz x0 x1 x2 xz
        go_wp2_with fail
        first | go_end0 | ((try simp only [Exit.inBlock, Exit.then]); refine bodyPost_ret (results_none rfl _ _ _) rfl ?_)
        rw [HE.out]
        exact ⟨rfl, HS4.out, HU4.out⟩
    · skip
      by_cases q : c = 108
      · subst q
        have HE := Lib.hid (show behind most S ⟨n, k, 108⟩ = tell most S 3 1 by
          unfold behind
          rw [if_neg (by omega), if_neg (by omega), if_pos (by simp [hl3])])
        have f1' : (s.toList == [114, 101]) = false := by rw [← HHS.out, two_eq hlc hxc]; simp [hl3]
        have f2' : (s.toList == [118, 101]) = false := by rw [← HHS.out, two_eq hlc hxc]; simp [hl3]
        have f3' : (s.toList == [108, 108]) = true := by rw [← HHS.out, two_eq hlc hxc]; simp [hl3]
        clear hl3
        have f1 : (s.toList == [114, 101]) = false := f1'
        have gf1 : ¬ s.toList = [114, 101] := by simpa using f1
        have f2 : (s.toList == [118, 101]) = false := f2'
        have gf2 : ¬ s.toList = [118, 101] := by simpa using f2
        have f3 : (s.toList == [108, 108]) = true := f3'
        have gf3 : s.toList = [108, 108] := by simpa using f3
        go_wp2_with fail
        refine (tell_calls 3 1 W2 HS2.out ⟨by omega, by omega, hm⟩).mono ?_
        rintro e W3 ⟨rfl, hs3, hu3⟩
        have HS3 := Lib.hid hs3
        have HU3 := Lib.hid (Mine.trans HU2.out hu3)
        clear hs3 hu3 c8 c9 c10 cf cz x0 x1 x2 xz
        go_wp2_with fail
        go_end0
        rw [HE.out]
        exact ⟨rfl, HS3.out, HU3.out⟩
      · have HE := Lib.hid (show behind most S ⟨n, k, c⟩ = oneA most (unq most S) ⟨n, k, c⟩ by
          unfold behind
          rw [if_neg (by omega), if_neg (by omega), if_neg (by simp only; omega)])
        have f1 : (s.toList == [114, 101]) = false := by rw [← HHS.out, two_eq hlc hxc, decide_eq_false_iff_not]; simp; omega
        have gf1 : ¬ s.toList = [114, 101] := by simpa using f1
        have f2 : (s.toList == [118, 101]) = false := by rw [← HHS.out, two_eq hlc hxc, decide_eq_false_iff_not]; simp; omega
        have gf2 : ¬ s.toList = [118, 101] := by simpa using f2
        have f3 : (s.toList == [108, 108]) = false := by rw [← HHS.out, two_eq hlc hxc, decide_eq_false_iff_not]; simp; omega
        have gf3 : ¬ s.toList = [108, 108] := by simpa using f3
        clear hl3 q
        go_wp2_with fail
        refine (unquoted_calls W2 HS2.out hK (by omega) hm).mono ?_
        rintro e W3 ⟨rfl, hs3, hu3⟩
        have HK := Lib.hid True.intro
        clear c8 c9 c10 cf cz x0 x1 x2 xz
        have HX3 := Lib.hid (Mine.keep hu3 HX2.out HNE.out (by decide))
        obtain ⟨v3, hc3, hr3⟩ := hs3.cell
        have HC3 := Lib.hid hc3
        have HS3 := Lib.hid hs3
        have HU3 := Lib.hid (Mine.trans HU2.out hu3)
        unfold cellsC at HC3
        clear hc3 hr3 hs3 hu3 HK
        have c3 := cell_at HC3.out 3
        have cz := lt_of_heap HC3.out
        simp only [List.getElem?_toArray, List.getElem?_cons_zero, List.getElem?_cons_succ] at c3
        have x0 := cell_at HX3.out 0
        have x1 := cell_at HX3.out 1
        have x2 := cell_at HX3.out 2
        have xz := lt_of_heap HX3.out
        simp only [List.getElem?_toArray, List.getElem?_cons_zero, List.getElem?_cons_succ] at x0 x1 x2
        go_wp2_with fail
        refine region_tail 5 (by kernel_rfl) (by kernel_rfl) ?_
        simp only [List.take_succ_cons, List.take_zero, List.drop_succ_cons, List.drop_zero]
        repeat (first | still_step)
        refine wpStill_nil ?_
        have hd3 : Below W3.heap.size W3 W3.drew := (Below.refl _ _).drew
        have HK2 := Lib.hid (one_any ⟨n, k, c⟩ W3.drew (HS3.out.below hd3) HUQ.out.1 hx HUQ.out.2 (by omega) hm)
        have HD3 := Lib.hid hd3
        unfold itemV at HK2
        clear hd3
        go_wp2_with fail
        refine HK2.out.mono ?_
        rintro e W4 ⟨rfl, hs4, hu4⟩
        have HS4 := Lib.hid hs4
        have HU4 := Lib.hid (Mine.trans HU3.out (Mine.trans (Mine.below HD3.out) hu4))
        clear hs4 hu4 HK2 c3 cz x0 x1 x2 xz
        go_wp2_with fail
        first | go_end0 | ((try simp only [Exit.inBlock, Exit.then]); refine bodyPost_ret (results_none rfl _ _ _) rfl ?_)
        rw [HE.out]
        exact ⟨rfl, HS4.out, HU4.out⟩
end Go.Proofs.YtendkmldecoogaaDoor.StepGo
namespace Go.Proofs.YtendkmldecoogaaDoor.StepGo
open Go Go.RowKit Go.Proofs.YtendkmldecoogaaDoor Go.Proofs.YtendkmldecoogaaDoor.Kit Go.Proofs.YtendkmldecoogaaDoor.Round Go.Proofs.YtendkmldecoogaaDoor.Seg Go.Proofs.YtendkmldecoogaaDoor.Collect Go.Proofs.YtendkmldecoogaaDoor.Dt Go.Proofs.YtendkmldecoogaaDoor.Cu Go.Proofs.YtendkmldecoogaaDoor.CutTokens Go.Proofs.YtendkmldecoogaaDoor.StepLaw Go.Proofs.YtendkmldecoogaaDoor.Scan
attribute [local irreducible] wpQuiet
set_option linter.unusedSimpArgs false

variable {W W' : World} {base cb tb sb most : Nat} {en : Bool} {at' : Nat} {S S' : Sx}

/-- No number of it is greater than K. -/
structure Bc (K : Nat) (S : Sx) : Prop where
  tb : S.told + S.bytes ≤ K
  out : S.out.length ≤ K
  many : S.many ≤ K
  letter : S.letter.n ≤ 9
  last : S.last.n ≤ 9
  sp : S.st = 3 → S.last.n ≤ S.bytes
theorem Bc.bd {K : Nat} (h : Bc K S) : Bd K S := ⟨by have := h.tb; omega, by have := h.tb; omega, h.out, h.many, h.letter, h.last, h.sp⟩
theorem Bc.up {K L : Nat} (h : Bc K S) (hk : K ≤ L) : Bc L S := ⟨by have := h.tb; omega, by have := h.out; omega, by have := h.many; omega, h.letter, h.last, h.sp⟩
theorem tell_bc {K n s : Nat} (h : Bc K S) (hn : n ≤ S.bytes + 9) : Bc (K + 9) (tell most S n s) := by
  have h' := h
  obtain ⟨k1, k2, k3, k4, k5, k6⟩ := h'
  unfold tell
  by_cases ho : S.over = true
  · rw [if_pos ho]; exact h.up (by omega)
  rw [if_neg ho]
  by_cases hm : most < n
  · rw [if_pos hm]
    exact ⟨by simp only; omega, by simp only; omega, by simp only; omega, k4, k5, k6⟩
  · rw [if_neg hm]
    exact ⟨by simp only; omega, by simp; omega, Nat.zero_le _, by simp [Ix.none], k5, fun h => by simp at h⟩
theorem runs_bc {K a : Nat} {x : Ix} (h : Bc K S) (hx : a + x.n ≤ 9) : Bc (K + 9) (runs S x a) := by
  obtain ⟨k1, k2, k3, k4, k5, k6⟩ := h
  exact ⟨by simp only [runs]; omega, by simp only [runs]; omega, by simp only [runs]; omega, k4, k5, fun h => by simp [runs] at h⟩
theorem one0_bc {K : Nat} {x : Ix} (h : Bc K S) (hx : x.n ≤ 9) : Bc (K + 9) (one0 S x) := by
  have h' := h
  obtain ⟨k1, k2, k3, k4, k5, k6⟩ := h'
  unfold one0
  by_cases ho : S.over = true
  · rw [if_pos ho]; exact h.up (by omega)
  rw [if_neg ho]
  by_cases hc : x.c = 39
  · rw [if_pos hc]
    exact ⟨by simp only; omega, by simp only; omega, by simp only; omega, k4, k5, fun h => by simp at h⟩
  rw [if_neg hc]
  by_cases h3 : x.k = 3
  · rw [if_pos h3]
    exact ⟨by simp only; omega, by simp only; omega, by simp only; omega, k4, by simp only; omega, fun _ => Nat.le_refl _⟩
  · rw [if_neg h3]
    exact runs_bc h (by omega)
theorem oneR_bc {K : Nat} {x : Ix} (h : Bc K S) (hx : x.n ≤ 9) : Bc (K + 18) (oneR most S x) := by
  have h' := h
  obtain ⟨k1, k2, k3, k4, k5, k6⟩ := h'
  unfold oneR
  by_cases ho : S.over = true
  · rw [if_pos ho]; exact h.up (by omega)
  rw [if_neg ho]
  by_cases hk : x.k = S.kind
  · rw [if_pos hk]
    exact ⟨by simp only; omega, by simp only; omega, by simp only; omega, k4, k5, fun h => by have := k6 h; simp only; omega⟩
  · rw [if_neg hk]
    exact (one0_bc (tell_bc h (by omega)) hx).up (by omega)
theorem parted_bc {K : Nat} {x : Ix} (h : Bc K S) (hx : x.n ≤ 4) : Bc (K + 27) (parted most S x) := by
  have h1 : Bc (K + 9) (if 1 < S.many then tell most S (S.bytes - S.last.n) 5 else S) := by
    split
    · exact tell_bc h (by omega)
    · exact h.up (by omega)
  unfold parted
  simp only
  split
  · exact (runs_bc h1 (by omega)).up (by omega)
  · exact (one0_bc (tell_bc h1 (by have := h.last; omega)) (by omega)).up (by omega)
theorem oneS_bc {K : Nat} {x : Ix} (h : Bc K S) (hx : x.n ≤ 4) : Bc (K + 27) (oneS most S x) := by
  have h' := h
  obtain ⟨k1, k2, k3, k4, k5, k6⟩ := h'
  unfold oneS
  by_cases ho : S.over = true
  · rw [if_pos ho]; exact h.up (by omega)
  rw [if_neg ho]
  by_cases hk : x.k = 3
  · rw [if_pos hk]
    exact ⟨by simp only; omega, by simp only; omega, by simp only; omega, k4, by simp only; omega, fun _ => by simp only; omega⟩
  · rw [if_neg hk]
    exact parted_bc h hx
theorem oneA_bc {K : Nat} {x : Ix} (h : Bc K S) (hx : x.n ≤ 4) : Bc (K + 27) (oneA most S x) := by
  unfold oneA
  split
  · exact (oneR_bc h (by omega)).up (by omega)
  split
  · exact oneS_bc h hx
  · exact (one0_bc h (by omega)).up (by omega)
theorem unq_bc {K : Nat} (h : Bc K S) : Bc (K + 27) (unq most S) := by
  have h' := h
  obtain ⟨k1, k2, k3, k4, k5, k6⟩ := h'
  have h1 : Bc (K + 9) (runs { S with letter := Ix.none } ⟨1, 4, 39⟩ 0) := runs_bc (S := { S with letter := Ix.none }) ⟨k1, k2, k3, by simp [Ix.none], k5, k6⟩ (by decide)
  unfold unq
  split
  · exact (oneR_bc h1 k4).up (by omega)
  · exact h1.up (by omega)
theorem behind_bc {K : Nat} {x : Ix} (h : Bc K S) (hx : x.n ≤ 4) (_hl : S.letter.n ≤ 4) : Bc (K + 54) (behind most S x) := by
  unfold behind
  split
  · exact (tell_bc h (by omega)).up (by omega)
  split
  · exact ⟨by have := h.tb; simp only; omega, by have := h.out; simp only; omega, by have := h.many; simp only; omega, by simp only; omega, h.last, h.sp⟩
  split
  · exact (tell_bc h (by omega)).up (by omega)
  · exact (oneA_bc (unq_bc h) hx).up (by omega)
theorem oneF_bc {K : Nat} {x : Ix} (h : Bc K S) (hx : x.n ≤ 4) (hl : S.letter.n ≤ 4) : Bc (K + 54) (oneF most S x) := by
  unfold oneF
  split
  · exact h.up (by omega)
  split
  · exact behind_bc h hx hl
  · exact (oneA_bc h hx).up (by omega)

/-- What an item may find. -/
def Ready (S : Sx) : Prop := (S.st = 0 ∨ S.st = 1 ∨ S.st = 2 ∨ S.st = 3) ∧ (S.letter = Ix.none ∨ (0 < S.letter.n ∧ S.letter.n ≤ 4 ∧ (S.letter.c = 114 ∨ S.letter.c = 118 ∨ S.letter.c = 108)))
theorem Inv.ready {D : Dt} {P : List It.It} (h : Inv D P S) : Ready S := by
  obtain ⟨hw, h⟩ := h
  rcases h with ⟨a1, _, a2⟩ | ⟨a1, q, hq, h⟩ | ⟨a1, a2, _⟩ | ⟨a1, a2, _⟩
  · exact ⟨.inl a1, .inl a2⟩
  · refine ⟨.inr (.inl a1), ?_⟩
    rcases h with ⟨_, a2⟩ | ⟨y, rfl, a2, hy⟩
    · exact .inl a2
    · right
      have hwy : WfI D y := hw y (by simp)
      obtain ⟨h1, h2⟩ := rvl_is hwy hy
      rw [a2]
      have h3 : (ixOf D y).n = 1 := h2
      exact ⟨by omega, by omega, h1⟩
  · exact ⟨.inr (.inr (.inl a1)), .inl a2⟩
  · exact ⟨.inr (.inr (.inr a1)), .inl a2⟩


set_option maxHeartbeats 1000000 in
set_option maxRecDepth 100000 in
theorem one_calls (x : Ix) (W : World) (h : St W base cb tb sb most en at' S) (hx : x.n ≤ 9) (hxc : x.c < 256) (hr : Ready S) {K : Nat} (hK : Bd K S) (hk : K ≤ 10000000) (hm : most ≤ 1000000000000) :
    Calls Tryd.prog 87 #[.pointer (some ⟨cb, 0, none⟩), itemV x] W fun e w' => e = .returned (.tuple #[]) ∧ St w' base cb tb sb most en at' (oneF most S x) ∧ Upd (Mine W base cb) W w' := by
  cases hov : S.over with
  | true =>
    have e : oneF most S x = one0 S x := by unfold oneF; rw [if_pos hov, one0_over hov]
    rw [e]
    exact one_begin x W h (.inl hov) hx
  | false =>
    by_cases h1 : S.st = 1
    · have e : oneF most S x = behind most S x := by unfold oneF; rw [if_neg (by simp [hov]), if_pos h1]
      have HE := Lib.hid e
      have HKB := Lib.hid (fun W h => behind_calls x W h hx hxc hK hk hm (hr.2.imp id fun h => ⟨h.1, h.2.2⟩) : ∀ W, St W base cb tb sb most en at' S → _)
      obtain ⟨v, hc, hr⟩ := h.cell
      obtain ⟨W1, hW1⟩ : ∃ Xz, W.alloc (.cells #[.int .i64 x.n, .int .i64 x.k, .int .u8 x.c] 147) = Xz := ⟨_, rfl⟩
      obtain ⟨bx, hbx⟩ : ∃ xz, W.heap.size = xz := ⟨_, rfl⟩
      have hb1 : Below W.heap.size W W1 := by rw [← hW1]; exact (Below.refl _ _).alloc (Nat.le_refl _) _
      have HX := Lib.hid (by rw [← hW1, ← hbx]; exact alloc_new rfl : W1.heap[bx]? = some (.cells #[.int .i64 x.n, .int .i64 x.k, .int .u8 x.c] 147 (0, 0)))
      have EW1 := Lib.hid hW1
      have Ebx := Lib.hid hbx
      clear hW1 hbx
      have HST := Lib.hid h
      have HC := Lib.hid ((hb1.block _ (lt_of_heap hc)).trans hc)
      have HR := Lib.hid (hr.below hb1)
      have HB := Lib.hid hb1
      have hne : bx ≠ cb := by have := Ebx.out; have := lt_of_heap hc; omega
      have HNE := Lib.hid hne
      clear h hc hr hb1 hne
      unfold cellsC at HC
      unfold itemV
      rw [h1, hov] at HC
      have HK := Lib.hid (HKB.out W1 (HST.out.below HB.out))
      unfold itemV at HK
      clear HKB e h1 hov
      have c4 := cell_at HC.out 4
      have c18 := cell_at HC.out 18
      have cz := lt_of_heap HC.out
      simp only [List.getElem?_toArray, List.getElem?_cons_zero, List.getElem?_cons_succ] at c4 c18
      have x0 := cell_at HX.out 0
      have x1 := cell_at HX.out 1
      have x2 := cell_at HX.out 2
      have xz := lt_of_heap HX.out
      simp only [List.getElem?_toArray, List.getElem?_cons_zero, List.getElem?_cons_succ] at x0 x1 x2
      go_enter Tryd.func87, Tryd.ntmps87
      go_upto_region 1 with fail
      rw [EW1.out, Ebx.out]
      go_wp2_with fail
      refine HK.out.mono ?_
      rintro e W2 ⟨rfl, hs2, hu2⟩
      have HS2 := Lib.hid hs2
      have HU2 := Lib.hid (Mine.trans (Mine.below HB.out) hu2)
      clear hs2 hu2 HK c4 c18 cz x0 x1 x2 xz
      go_wp2_with fail
      go_end0
      rw [HE.out]
      exact ⟨rfl, HS2.out, HU2.out⟩
    · have e : oneF most S x = oneA most S x := by unfold oneF; rw [if_neg (by simp [hov]), if_neg h1]
      rw [e]
      exact one_any x W h (by rcases hr.1 with h | h | h | h <;> simp [h] at h1 ⊢) hx hK (by omega) hm

set_option maxRecDepth 100000 in
theorem sure_calls (W : World) (h : St W base cb tb sb most en at' S) (hb : S.bytes ≤ 1000000000000) (hsp : S.st = 3 → S.last.n ≤ S.bytes) :
    Calls Tryd.prog 121 #[.pointer (some ⟨cb, 0, none⟩)] W fun e w' => e = .returned (.int .i64 (sure S)) ∧ ∃ y : Later W, w' = y.w := by
  obtain ⟨v, hc, _⟩ := h.cell
  have HC := Lib.hid hc
  unfold cellsC at HC
  clear h hc
  have c4 := cell_at HC.out 4
  have c5 := cell_at HC.out 5
  have c11 := cell_at HC.out 11
  have c14 := cell_at HC.out 14
  have cz := lt_of_heap HC.out
  simp only [List.getElem?_toArray, List.getElem?_cons_zero, List.getElem?_cons_succ] at c4 c5 c11 c14
  by_cases h2 : S.st = 2
  · have e : sure S = S.bytes := by unfold sure; rw [if_pos h2]
    rw [h2] at c4
    rw [e]
    clear h2 e hsp
    go_enter Tryd.func121, Tryd.ntmps121
    go_wp2_with fail
    go_ret
    exact ⟨rfl, ⟨_, Below.refl _ _⟩, rfl⟩
  · have h2' : ((S.st : Int) == 2) = false := by simp; omega
    by_cases h3 : S.st = 3
    · rw [h3] at c4 h2'
      by_cases h4 : 1 < S.many
      · have h4' : (1 : Int) < S.many := by omega
        have e : sure S = S.bytes - S.last.n := by unfold sure; rw [if_neg h2, if_pos ⟨h3, h4⟩]
        have hle := hsp h3
        have hw1 : IntKind.i64.wrap ((S.bytes : Int) - S.last.n) = ((S.bytes - S.last.n : Nat) : Int) := by rw [i64w _ (by omega) (by omega)]; omega
        rw [e]
        clear h2 h3 e hsp
        go_enter Tryd.func121, Tryd.ntmps121
        go_wp2_with fail
        go_region
        go_wp2_with fail
        go_ret
        exact ⟨rfl, ⟨_, (Below.refl _ _).drew⟩, rfl⟩
      · have h4' : ¬ ((1 : Int) < S.many) := by omega
        have e : sure S = 0 := by unfold sure; rw [if_neg h2, if_neg (fun h => h4 h.2)]
        rw [e]
        clear h2 h3 e hsp
        go_enter Tryd.func121, Tryd.ntmps121
        go_wp2_with fail
        go_ret
        exact ⟨rfl, ⟨_, Below.refl _ _⟩, rfl⟩
    · have h3' : ((S.st : Int) == 3) = false := by simp; omega
      have e : sure S = 0 := by unfold sure; rw [if_neg h2, if_neg (fun h => h3 h.1)]
      rw [e]
      clear h2 h3 e hsp
      go_enter Tryd.func121, Tryd.ntmps121
      go_wp2_with fail
      go_ret
      exact ⟨rfl, ⟨_, Below.refl _ _⟩, rfl⟩
end Go.Proofs.YtendkmldecoogaaDoor.StepGo
