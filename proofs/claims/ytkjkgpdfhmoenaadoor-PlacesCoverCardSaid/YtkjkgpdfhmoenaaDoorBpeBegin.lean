/-
  model.Merge: the merge of two ids. bpe.work: look. slices.Clone of numbers; bpe.bytes. bpe.begin: all neighbours are looked at.
-/
import Derived.Test.YtkjkgpdfhmoenaaDoorEncLaw
import Derived.Test.YtkjkgpdfhmoenaaDoorMoNew
import Derived.Test.YtkjkgpdfhmoenaaDoorHeapPush
import Derived.Test.YtkjkgpdfhmoenaaDoorChain
import Derived.Lib.SliceRun
namespace Go.Proofs.YtkjkgpdfhmoenaaDoor.BpeMg
open Go Go.RowKit Go.Proofs.YtkjkgpdfhmoenaaDoor.Kit Go.Proofs.YtkjkgpdfhmoenaaDoor.Maps Go.Proofs.YtkjkgpdfhmoenaaDoor.Dt Go.Proofs.YtkjkgpdfhmoenaaDoor.Mo Go.Proofs.YtkjkgpdfhmoenaaDoor.MoNew Go.Proofs.YtkjkgpdfhmoenaaDoor.MoPairs Go.Proofs.YtkjkgpdfhmoenaaDoor.MapArr Go.Proofs.YtkjkgpdfhmoenaaDoor.EncLaw
attribute [local irreducible] wpQuiet

theorem lk_prs (D : Dt) (l r : Int) : ∀ (n i m : Nat), (lk (l, r) ((List.range' i n).map fun j => ((D.A j, D.B j), Value.agg #[.int .i64 (j : Int), .int .i64 (D.I j)], j)) m).map (·.2) = (mgF D l r n i).map fun x => Value.agg #[.int .i64 x.1, .int .i64 x.2]
  | 0, i, m => rfl
  | n + 1, i, m => by
    rw [List.range'_succ, List.map_cons]
    unfold lk mgF
    by_cases h : D.A i = l ∧ D.B i = r
    · rw [if_pos (by rw [← h.1, ← h.2]), if_pos h]
      rfl
    · rw [if_neg (fun e => h (by simp only [Prod.mk.injEq] at e; exact ⟨e.1.symm, e.2.symm⟩)), if_neg h]
      exact lk_prs D l r n (i + 1) (m + 1)

/-- What Merge answers. -/
def mgV (D : Dt) (l r : Int) : Value := match mg D l r with
  | none => .tuple #[.int .i64 0, .int .i64 0, .bool false]
  | some x => .tuple #[.int .i64 x.1, .int .i64 x.2, .bool true]

set_option maxHeartbeats 1000000 in
set_option maxRecDepth 100000 in
theorem Merge_calls (D : Dt) (mb : Nat) (l r : Int) (w : World) (h : Mod w mb D) :
    Calls Tryd.prog 128 #[.pointer (some ⟨mb, 0, none⟩), .int .i64 l, .int .i64 r] w fun e w' => e = .returned (mgV D l r) ∧ Below w.heap.size w w' := by
  obtain ⟨q, tb, p, mp, hb, _, _, hm⟩ := h.ex
  have hlk := lk_prs D l r D.nm 0 0
  rw [← List.range_eq_range'] at hlk
  have hl : ∀ (a b : Int) (ok : Bool), mgV D l r = .tuple #[.int .i64 a, .int .i64 b, .bool ok] → ((lk (l, r) (prs D D.nm) 0).map (·.2)).getD (.agg #[.int .i64 0, .int .i64 0]) = .agg #[.int .i64 a, .int .i64 b] → (lk (l, r) (prs D D.nm) 0).isSome = ok →
      (Instr.lookup 114 (.map (some mp)) (.agg #[.int .i64 l, .int .i64 r]) true).run Tryd.prog w = .ok (.tuple #[.agg #[.int .i64 a, .int .i64 b], .bool ok]) w := by
    intro a b ok _ h1 h2
    have := run_lookup2 pairLaw Tryd.underlying114 w mp (prs D D.nm) D.nm (l, r) (.agg #[.int .i64 0, .int .i64 0]) hm (fun W => by kernel_rfl)
    rw [h1, h2] at this
    exact this
  have key : ∃ a b ok, mgV D l r = .tuple #[.int .i64 a, .int .i64 b, .bool ok] ∧ (Instr.lookup 114 (.map (some mp)) (.agg #[.int .i64 l, .int .i64 r]) true).run Tryd.prog w = .ok (.tuple #[.agg #[.int .i64 a, .int .i64 b], .bool ok]) w := by
    unfold mg at *
    cases hg : mgF D l r D.nm 0 with
    | none =>
      rw [hg] at hlk
      have hv : mgV D l r = .tuple #[.int .i64 0, .int .i64 0, .bool false] := by unfold mgV mg; rw [hg]
      refine ⟨0, 0, false, hv, hl 0 0 false hv ?_ ?_⟩
      · show ((lk (l, r) (prs D D.nm) 0).map (·.2)).getD _ = _
        unfold prs
        rw [hlk]
        rfl
      · have : lk (l, r) (prs D D.nm) 0 = none := by
          unfold prs
          cases hq : lk (l, r) ((List.range D.nm).map fun j => ((D.A j, D.B j), Value.agg #[.int .i64 (j : Int), .int .i64 (D.I j)], j)) 0 with
          | none => rfl
          | some z => rw [hq] at hlk; cases hlk
        rw [this]
        rfl
    | some x =>
      rw [hg] at hlk
      have hv : mgV D l r = .tuple #[.int .i64 x.1, .int .i64 x.2, .bool true] := by unfold mgV mg; rw [hg]
      refine ⟨x.1, x.2, true, hv, hl x.1 x.2 true hv ?_ ?_⟩
      · show ((lk (l, r) (prs D D.nm) 0).map (·.2)).getD _ = _
        unfold prs
        rw [hlk]
        rfl
      · unfold prs
        cases hq : lk (l, r) ((List.range D.nm).map fun j => ((D.A j, D.B j), Value.agg #[.int .i64 (j : Int), .int .i64 (D.I j)], j)) 0 with
        | none => rw [hq] at hlk; cases hlk
        | some z => rfl
  obtain ⟨a, b, ok, hv, hrun⟩ := key
  rw [hv]
  have HB := Lib.hid hb
  unfold Blk at HB
  obtain ⟨W1, hW1⟩ : ∃ Xz, w.alloc (.cells #[.int .i64 a, .int .i64 b] 170) = Xz := ⟨_, rfl⟩
  obtain ⟨xb, hxb⟩ : ∃ xz, w.heap.size = xz := ⟨_, rfl⟩
  have hb1 : Below w.heap.size w W1 := by rw [← hW1]; exact (Below.refl _ _).alloc (Nat.le_refl _) _
  have HX := Lib.hid (by rw [← hW1, ← hxb]; exact alloc_new rfl : W1.heap[xb]? = some (.cells #[.int .i64 a, .int .i64 b] 170 (0, 0)))
  have EW1 := Lib.hid hW1
  have Exb := Lib.hid hxb
  clear hW1 hxb
  have HB1 := Lib.hid hb1
  clear hl hlk hv hb hm h hb1
  have c6 := cell_at HB.out 6
  have cz := lt_of_heap HB.out
  simp only [List.getElem?_toArray, List.getElem?_cons_zero, List.getElem?_cons_succ] at c6
  have x0 := cell_at HX.out 0
  have x1 := cell_at HX.out 1
  have xz := lt_of_heap HX.out
  simp only [List.getElem?_toArray, List.getElem?_cons_zero, List.getElem?_cons_succ] at x0 x1
  go_enter Tryd.func128, Tryd.ntmps128
  go_upto_region 2 with fail
  rw [EW1.out, Exb.out]
  refine region_calm (by kernel_rfl) (by kernel_rfl) ?_
  repeat (quiet_step ((fail)))
  refine wpQuiet_nil ?_
  rintro _ ⟨x, rfl⟩
  go_wp2
  refine bodyPost_ret (v := .tuple #[.int .i64 a, .int .i64 b, .bool ok]) (by simp [results, Tryd.results128, go_sem, *]) rfl (⟨rfl, Later.chain HB1.out x⟩)
end Go.Proofs.YtkjkgpdfhmoenaaDoor.BpeMg
namespace Go.Proofs.YtkjkgpdfhmoenaaDoor.BpeGo
open Go Go.RowKit Go.Proofs.YtkjkgpdfhmoenaaDoor.Kit Go.Proofs.YtkjkgpdfhmoenaaDoor.Range Go.Proofs.YtkjkgpdfhmoenaaDoor.Round Go.Proofs.YtkjkgpdfhmoenaaDoor.Seg Go.Proofs.YtkjkgpdfhmoenaaDoor.Collect Go.Proofs.YtkjkgpdfhmoenaaDoor.Dt Go.Proofs.YtkjkgpdfhmoenaaDoor.MoNew Go.Proofs.YtkjkgpdfhmoenaaDoor.BpeLaw Go.Proofs.YtkjkgpdfhmoenaaDoor.EncLaw Go.Proofs.YtkjkgpdfhmoenaaDoor.Chain Go.Proofs.YtkjkgpdfhmoenaaDoor.Heap Go.Proofs.YtkjkgpdfhmoenaaDoor.BpeMg
attribute [local irreducible] wpQuiet wpStill
set_option linter.unusedSimpArgs false

/-- What look leaves. -/
def Looked (D : Dt) (ids : Nat → Int) (i j : Nat) (w : World) (base hb : Nat) (v : Value) (H : List Pr) (e : Ending) (w' : World) : Prop :=
  e = .returned (.tuple #[]) ∧ ∃ v' H', HeapAt w' base hb v' H' ∧ Hp H' ∧ Put (mg D) ids i j H H' ∧ H'.length ≤ H.length + 1 ∧ Upd (Hb hb v) w w' ∧ (∀ b, v'.ownBlock = some b → v.ownBlock = some b ∨ w.heap.size ≤ b)

set_option maxHeartbeats 2000000 in
set_option maxRecDepth 100000 in
theorem look_calls (D : Dt) (mb wb cb hb base gi oi n ci : Nat) (ids : Nat → Int) (v : Value) (H : List Pr) (i j : Nat) (w : World) (hM : Mod w mb D)
    (hw : w.heap[wb]? = some (.cells #[.pointer (some ⟨mb, 0, none⟩), .slice (some ⟨gi, oi, none⟩) n ci, .pointer (some ⟨cb, 0, none⟩), .pointer (some ⟨hb, 0, none⟩)] 201 (0, 0)))
    (hi : IR w gi oi n ids) (hH : HeapAt w base hb v H) (hp : Hp H) (hl : H.length ≤ 10000000) (h1 : i < n) (h2 : j < n) :
    Calls Tryd.prog 115 #[.pointer (some ⟨wb, 0, none⟩), .int .i64 i, .int .i64 j] w (Looked D ids i j w base hb v H) := by
  have v1 := hi.cell h1
  have v2 := hi.cell h2
  have gz := hi.lt
  obtain ⟨a, ha⟩ : ∃ z, ids i = z := ⟨_, rfl⟩
  obtain ⟨b, hb'⟩ : ∃ z, ids j = z := ⟨_, rfl⟩
  rw [ha] at v1
  rw [hb'] at v2
  have HA := Lib.hid ha
  have HB := Lib.hid hb'
  obtain ⟨W1, hW1⟩ : ∃ z, (w.alloc (.cells #[.int .i64 a, .int .i64 b] 168)).drew = z := ⟨_, rfl⟩
  obtain ⟨xb, hxb⟩ : ∃ z, w.heap.size = z := ⟨_, rfl⟩
  have hb1 : Below w.heap.size w W1 := by rw [← hW1]; exact ((Below.refl _ _).alloc (Nat.le_refl _) _).drew
  have HX := Lib.hid (show W1.heap[xb]? = some (.cells #[.int .i64 a, .int .i64 b] 168 (0, 0)) from by rw [← hW1, ← hxb]; exact alloc_new rfl)
  have HW := Lib.hid hw
  have HW1 := Lib.hid ((hb1.block _ (lt_of_heap hw)).trans hw)
  have HM := Lib.hid (Merge_calls D mb a b W1.drew ((hM.below hb1).below (Below.refl _ _).drew))
  have EW1 := Lib.hid hW1
  have Exb := Lib.hid hxb
  have HB1 := Lib.hid hb1
  have HH := Lib.hid hH
  have HP := Lib.hid hp
  have i1 : (i : Int) < n := by omega
  have i2 : (0 : Int) ≤ i := by omega
  have i3 : (j : Int) < n := by omega
  have i4 : (0 : Int) ≤ j := by omega
  have i5 : ¬ ((i : Int) < 0) := by omega
  have i6 : ¬ ((j : Int) < 0) := by omega
  have i7 : ¬ ((n : Int) ≤ j) := by omega
  clear hM hw hi hH hp ha hb' hW1 hxb hb1
  have k1 := cell_at HW.out 1
  have kz := lt_of_heap HW.out
  simp only [List.getElem?_toArray, List.getElem?_cons_zero, List.getElem?_cons_succ] at k1
  go_enter Tryd.func115, Tryd.ntmps115
  go_upto_region 1 with fail
  refine Rgu.RGO_begin (fun w' => Below w.heap.size w w') 16 17 [(0, 25), (4, 29), (7, 32), (11, 36), (1, 26), (8, 33), (2, 27), (9, 34), (3, 28), (10, 35), (5, 30), (12, 37), (6, 31), (13, 38), (14, 39)] (by rfl) (by decide +kernel) (by kernel_rfl) ((Below.refl _ _).drew) (fun R hR => ?_)
  repeat ((first | refine Rgu.RGO_take (by exact rfl) (by exact rfl) (by decide +kernel) (by exact rfl) (by intro w' hw'; have y0 := ((bcell hw').1 wb 1 kz).trans k1; have y1 := ((bcell hw').1 gi (oi + i) gz).trans v1; have y2 := ((bcell hw').1 gi (oi + j) gz).trans v2; go_simp; try with_reducible rfl) ?_ | refine Rgu.RGO_skip (by exact rfl) (by exact rfl) (by decide +kernel) (by exact rfl) ?_); try simp only [Act.put, List.setIfInBounds_toArray, List.set_cons_zero, List.set_cons_succ])
  refine Rgu.RGO_one 15 [] (by exact rfl) (by decide +kernel) (by exact rfl) (fun K hK => ?_)
  go_wp2_with (fail)
  refine hK _ _ (((Below.refl _ _).drew).alloc (Nat.le_refl _) _) ?_
  clear hK K
  try simp only [Act.put, List.setIfInBounds_toArray, List.set_cons_zero, List.set_cons_succ]
  refine Rgu.RGO_last 16 (by exact rfl) (by decide +kernel) (by exact rfl) (fun K hK => ?_)
  go_wp2_with (fail)
  try (refine hK _ _ ?_; clear hK K)
  try simp only [Act.put, List.setIfInBounds_toArray, List.set_cons_zero, List.set_cons_succ]
  refine Rgu.RGH_done (by decide +kernel) (hR _ _ ?_)
  clear hR R
  go_upto_region 2 with fail
  rw [EW1.out, Exb.out]
  have HMB := Lib.hid ((cell_at HW1.out 0 : W1.cell? ⟨wb, 0, none⟩ = some (.pointer (some ⟨mb, 0, none⟩))))
  clear k1 kz v1 v2 gz
  have k0 := cell_at HW1.out 0
  have kz := lt_of_heap HW1.out
  simp only [List.getElem?_toArray, List.getElem?_cons_zero] at k0
  have x0 := cell_at HX.out 0
  have x1 := cell_at HX.out 1
  have xz := lt_of_heap HX.out
  simp only [List.getElem?_toArray, List.getElem?_cons_zero, List.getElem?_cons_succ] at x0 x1
  cases hg : mg D a b with
  | none =>
    have hv : mgV D a b = .tuple #[.int .i64 0, .int .i64 0, .bool false] := by unfold mgV; rw [hg]
    rw [hv] at HM
    have HG := Lib.hid hg
    clear hv hg
    refine Rgs.RGT_begin (fun w' => Below W1.heap.size W1 w') 16 [(0, 41), (4, 45), (6, 47), (1, 42), (5, 46), (7, 48), (2, 43), (3, 44)] (by rfl) (by decide +kernel) (by kernel_rfl) ((Below.refl _ _).drew) (fun R hR => ?_)
    repeat ((first | refine Rgs.RGT_take (by exact rfl) (by exact rfl) (by decide +kernel) (by exact rfl) (by intro w' hw'; have y0 := ((bcell hw').1 wb 0 kz).trans k0; have y1 := ((bcell hw').1 xb 0 xz).trans x0; have y2 := ((bcell hw').1 xb 1 xz).trans x1; go_simp; try with_reducible rfl) ?_ | refine Rgs.RGT_skip (by exact rfl) (by exact rfl) (by decide +kernel) (by exact rfl) ?_); try simp only [Act.put, List.setIfInBounds_toArray, List.set_cons_zero, List.set_cons_succ])
    refine Rgs.RGT_one 8 [(9, 40), (10, 50), (11, 51), (12, 52), (13, 7), (14, 8), (15, 9)] (by exact rfl) (by decide +kernel) (by exact rfl) (fun K hK => ?_)
    (go_wp2_with fail; refine HM.out.mono ?_; rintro e W2 ⟨rfl, hb2'⟩)
    refine hK _ _ (chain (Below.refl W1.heap.size W1).drew hb2') ?_
    clear hK K
    try simp only [Act.put, List.setIfInBounds_toArray, List.set_cons_zero, List.set_cons_succ]
    repeat ((first | refine Rgs.RGT_take (by exact rfl) (by exact rfl) (by decide +kernel) (by exact rfl) (by intro w' hw'; have y0 := ((bcell hw').1 wb 0 kz).trans k0; have y1 := ((bcell hw').1 xb 0 xz).trans x0; have y2 := ((bcell hw').1 xb 1 xz).trans x1; go_simp; try with_reducible rfl) ?_ | refine Rgs.RGT_skip (by exact rfl) (by exact rfl) (by decide +kernel) (by exact rfl) ?_); try simp only [Act.put, List.setIfInBounds_toArray, List.set_cons_zero, List.set_cons_succ])
    refine Rgs.RGT_done (by decide +kernel) (hR _ _ ?_)
    clear hR R
    have hb2 : Below w.heap.size w W2 := chain HB1.out (chain (Below.refl W1.heap.size W1).drew hb2')
    have HB2 := Lib.hid hb2
    have HX2 := Lib.hid ((chain (Below.refl W1.heap.size W1).drew hb2').block _ (lt_of_heap HX.out) |>.trans HX.out)
    have HW2 := Lib.hid ((hb2.block _ (lt_of_heap HW.out)).trans HW.out)
    have HH2 := Lib.hid (HH.out.below hb2)
    clear hb2 hb2' HM k0 kz x0 x1 xz
    go_wp2_with fail
    go_end0
    refine ⟨rfl, v, H, HH2.out, HP.out, ?_, Nat.le_succ _, Upd.of_below HB2.out, fun b hb => .inl hb⟩
    unfold Put
    rw [HA.out, HB.out, HG.out]
    exact fun y => Iff.rfl
  | some z =>
    obtain ⟨r, id⟩ := z
    have hv : mgV D a b = .tuple #[.int .i64 r, .int .i64 id, .bool true] := by unfold mgV; rw [hg]
    rw [hv] at HM
    have HG := Lib.hid hg
    clear hv hg
    refine Rgs.RGT_begin (fun w' => Below W1.heap.size W1 w') 16 [(0, 41), (4, 45), (6, 47), (1, 42), (5, 46), (7, 48), (2, 43), (3, 44)] (by rfl) (by decide +kernel) (by kernel_rfl) ((Below.refl _ _).drew) (fun R hR => ?_)
    repeat ((first | refine Rgs.RGT_take (by exact rfl) (by exact rfl) (by decide +kernel) (by exact rfl) (by intro w' hw'; have y0 := ((bcell hw').1 wb 0 kz).trans k0; have y1 := ((bcell hw').1 xb 0 xz).trans x0; have y2 := ((bcell hw').1 xb 1 xz).trans x1; go_simp; try with_reducible rfl) ?_ | refine Rgs.RGT_skip (by exact rfl) (by exact rfl) (by decide +kernel) (by exact rfl) ?_); try simp only [Act.put, List.setIfInBounds_toArray, List.set_cons_zero, List.set_cons_succ])
    refine Rgs.RGT_one 8 [(9, 40), (10, 50), (11, 51), (12, 52), (13, 7), (14, 8), (15, 9)] (by exact rfl) (by decide +kernel) (by exact rfl) (fun K hK => ?_)
    (go_wp2_with fail; refine HM.out.mono ?_; rintro e W2 ⟨rfl, hb2'⟩)
    refine hK _ _ (chain (Below.refl W1.heap.size W1).drew hb2') ?_
    clear hK K
    try simp only [Act.put, List.setIfInBounds_toArray, List.set_cons_zero, List.set_cons_succ]
    repeat ((first | refine Rgs.RGT_take (by exact rfl) (by exact rfl) (by decide +kernel) (by exact rfl) (by intro w' hw'; have y0 := ((bcell hw').1 wb 0 kz).trans k0; have y1 := ((bcell hw').1 xb 0 xz).trans x0; have y2 := ((bcell hw').1 xb 1 xz).trans x1; go_simp; try with_reducible rfl) ?_ | refine Rgs.RGT_skip (by exact rfl) (by exact rfl) (by decide +kernel) (by exact rfl) ?_); try simp only [Act.put, List.setIfInBounds_toArray, List.set_cons_zero, List.set_cons_succ])
    refine Rgs.RGT_done (by decide +kernel) (hR _ _ ?_)
    clear hR R
    have hb2 : Below w.heap.size w W2 := chain HB1.out (chain (Below.refl W1.heap.size W1).drew hb2')
    have HB2 := Lib.hid hb2
    have HX2 := Lib.hid ((chain (Below.refl W1.heap.size W1).drew hb2').block _ (lt_of_heap HX.out) |>.trans HX.out)
    have HW2 := Lib.hid ((hb2.block _ (lt_of_heap HW.out)).trans HW.out)
    have HH2 := Lib.hid (HH.out.below hb2)
    clear hb2 hb2' HM k0 kz x0 x1 xz
    have HPU := Lib.hid (Push_calls W2.drew base hb v H ⟨r, i, j, a, b, id⟩ (HH2.out.below (Below.refl _ _).drew) HP.out hl)
    simp only [prV] at HPU
    have k3 := cell_at HW2.out 3
    have kz := lt_of_heap HW2.out
    simp only [List.getElem?_toArray, List.getElem?_cons_zero, List.getElem?_cons_succ] at k3
    have x0 := cell_at HX2.out 0
    have x1 := cell_at HX2.out 1
    have xz := lt_of_heap HX2.out
    simp only [List.getElem?_toArray, List.getElem?_cons_zero, List.getElem?_cons_succ] at x0 x1
    go_upto_region 4 with fail
    refine region_tail 10 (by kernel_rfl) (by kernel_rfl) ?_
    simp only [List.take_succ_cons, List.take_zero, List.drop_succ_cons, List.drop_zero]
    repeat (first | still_step)
    refine wpStill_nil ?_
    go_wp2_with fail
    refine HPU.out.mono ?_
    rintro e W3 ⟨rfl, v', H', q1, q2, q3, q4, q5, q6⟩
    have HQ := Lib.hid (show Looked D ids i j w base hb v H (.returned (.tuple #[])) W3 from by
      refine ⟨rfl, v', H', q1, q2, ?_, by omega, (Upd.of_below HB2.out).trans ((Upd.refl _ _).drew.trans q5), fun b hb => ?_⟩
      · unfold Put
        rw [HA.out, HB.out, HG.out]
        exact q3
      · rcases q6 b hb with h | h
        · exact .inl h
        · exact .inr (Nat.le_trans HB2.out.size h))
    clear q1 q2 q3 q4 q5 q6 HPU
    go_wp2_with fail
    go_end0
    exact HQ.out

set_option maxRecDepth 100000 in
theorem look_none (wb gi oi n ci : Nat) (p0 p2 p3 : Value) (l r : Int) (w : World) (hw : w.heap[wb]? = some (.cells #[p0, .slice (some ⟨gi, oi, none⟩) n ci, p2, p3] 201 (0, 0))) (h : l < 0 ∨ (0 ≤ l ∧ r < 0) ∨ (0 ≤ l ∧ 0 ≤ r ∧ (n : Int) ≤ r)) :
    Calls Tryd.prog 115 #[.pointer (some ⟨wb, 0, none⟩), .int .i64 l, .int .i64 r] w fun e w' => e = .returned (.tuple #[]) ∧ w = w' := by
  have HW := Lib.hid hw
  clear hw
  have k1 := cell_at HW.out 1
  have kz := lt_of_heap HW.out
  simp only [List.getElem?_toArray, List.getElem?_cons_zero, List.getElem?_cons_succ] at k1
  rcases h with h | ⟨h0, h⟩ | ⟨h0, h1, h⟩
  · go_enter Tryd.func115, Tryd.ntmps115
    go_wp2_with fail
    (try simp only [Exit.inBlock, Exit.then]); refine bodyPost_ret (results_none rfl _ _ _) rfl ?_
    exact ⟨rfl, rfl⟩
  · have h2 : ¬ (l < 0) := by omega
    go_enter Tryd.func115, Tryd.ntmps115
    go_wp2_with fail
    (try simp only [Exit.inBlock, Exit.then]); refine bodyPost_ret (results_none rfl _ _ _) rfl ?_
    exact ⟨rfl, rfl⟩
  · have h2 : ¬ (l < 0) := by omega
    have h3 : ¬ (r < 0) := by omega
    go_enter Tryd.func115, Tryd.ntmps115
    go_wp2_with fail
    (try simp only [Exit.inBlock, Exit.then]); refine bodyPost_ret (results_none rfl _ _ _) rfl ?_
    exact ⟨rfl, rfl⟩
end Go.Proofs.YtkjkgpdfhmoenaaDoor.BpeGo
namespace Go.Proofs.YtkjkgpdfhmoenaaDoor.BpeGo
open Go Go.RowKit Go.Proofs.YtkjkgpdfhmoenaaDoor.Kit Go.Proofs.YtkjkgpdfhmoenaaDoor.Range Go.Proofs.YtkjkgpdfhmoenaaDoor.Round Go.Proofs.YtkjkgpdfhmoenaaDoor.Seg Go.Proofs.YtkjkgpdfhmoenaaDoor.Collect Go.Proofs.YtkjkgpdfhmoenaaDoor.BpeLaw Go.Proofs.YtkjkgpdfhmoenaaDoor.EncLaw Go.Proofs.YtkjkgpdfhmoenaaDoor.Chain
attribute [local irreducible] wpQuiet wpStill
set_option linter.unusedSimpArgs false

/-- Numbers in new memory. -/
def Nums (n : Nat) (f : Nat → Int) (w : World) (e : Ending) (w' : World) : Prop := ∃ g o c, e = .returned (.slice (some ⟨g, o, none⟩) n c) ∧ IR w' g o n f ∧ n ≤ c ∧ w.heap.size ≤ g ∧ Below w.heap.size w w'

theorem ir_src {w : World} {g o n cap : Nat} {f : Nat → Int} (h : IR w g o n f) : Src w (.slice (some ⟨g, o, none⟩) n cap) n (ints n f) := by
  refine ⟨some ⟨g, o, none⟩, cap, rfl, (fun h => by cases h), fun ad had j u hu => ?_⟩
  cases had
  have hj : j < n := by have := (List.getElem?_eq_some_iff.1 hu).1; rwa [ints_len] at this
  rw [ints_at f hj] at hu
  rw [add_plain, h.cell hj, hu]

set_option maxHeartbeats 1000000 in
set_option maxRecDepth 100000 in
theorem Clone_calls (g o n cap : Nat) (f : Nat → Int) (w : World) (h : IR w g o n f) (h0 : 0 < n) (hn : n ≤ 1048576) :
    Calls Tryd.prog 111 #[.slice (some ⟨g, o, none⟩) n cap] w (Nums n f w) := by
  obtain ⟨W1, hW1⟩ : ∃ z, w.alloc (.cells #[] 3) = z := ⟨_, rfl⟩
  obtain ⟨nb, hnb⟩ : ∃ z, w.heap.size = z := ⟨_, rfl⟩
  have hb1 : Below w.heap.size w W1 := by rw [← hW1]; exact (Below.refl _ _).alloc (Nat.le_refl _) _
  have hN : W1.heap[nb]? = some (.cells #[] 3 (0, 0)) := by rw [← hW1, ← hnb]; exact alloc_new rfl
  have hseg : Seg W1 w.heap.size 3 1 (.slice (some ⟨nb, 0, none⟩) 0 0) 0 [] := ⟨rfl, .inr ⟨nb, 0, 0, #[], rfl, by omega, hN, Nat.le_refl _, Nat.zero_le _, by simp, rfl⟩⟩
  obtain ⟨i, hi, hz0, hz1, hz2⟩ := elemI.parts
  obtain ⟨v2, A, hr, ha, _⟩ := run_append_seg (P := Tryd.prog) W1 w.heap.size 33 33 3 i _ 1 8 elemI.t hi hz0 hz1 hz2 elemI.z elemI.p _ 0 [] hseg (.slice (some ⟨g, o, none⟩) n cap) n (ints n f) (by rw [ints_len]; omega) (ir_src (h.below hb1)) (by
    intro u hu
    obtain ⟨k, _, rfl⟩ := List.mem_map.1 hu
    rfl) (by unfold maxLen; omega) (by omega) hb1.size
  rw [Nat.zero_add, List.nil_append] at ha
  obtain ⟨a2, c2, rfl, hc2, _, hnone⟩ := ha.seg.shape
  have hat : ∃ g2 o2, a2 = some ⟨g2, o2, none⟩ := by
    rcases Seg.at' ha.seg with ⟨h1, h2⟩ | ⟨g2, o2, _, _, h1, _⟩
    · omega
    · simp only [Value.slice.injEq] at h1; exact ⟨g2, o2, h1.1⟩
  obtain ⟨g2, o2, rfl⟩ := hat
  have HQ := Lib.hid (show Nums n f w (.returned (.slice (some ⟨g2, o2, none⟩) n c2)) A from ⟨g2, o2, c2, rfl, IR.of_seg ha.seg, hc2, (Seg.lt ha.seg g2 rfl).1, hb1.trans (ha.u.below hb1.size (fun b hb e => by simp only [Value.ownBlock, Option.some.injEq] at e; omega))⟩)
  rw [← hW1, ← hnb] at hr
  have HRUN := Lib.hid hr
  have hnl := fun (w : World) (n c : Nat) => Lib.run_eql_slice_nil (P := Tryd.prog) w 33 3 (some ⟨g, o, none⟩) n c 0 0 Tryd.underlying33
  simp only [Option.isNone_some] at hnl
  clear h hb1 hN hseg hi hz0 hz1 hz2 hr ha hnone hc2 hW1 hnb
  go_enter Tryd.func111, Tryd.ntmps111
  go_wp2_with (at_builtin; refine append_run rfl rfl rfl rfl HRUN.out ?_)
  go_ret
  exact HQ.out

/-- A byte's number. -/
def byF (s : ByteArray) (k : Nat) : Int := (s.data.toList.getD k 0).toNat
theorem makeI (n : Nat) (hn : n ≤ 1048576) (w : World) :
    (Instr.makeSlice 33 (.int .i64 n) (.int .i64 n)).run Tryd.prog w = .ok (.slice (some ⟨w.heap.size, 0, none⟩) n n) (w.alloc (.cells (madeCells #[.int .i64 0] n) 3)) := by
  obtain ⟨i, hi, hz, hs, hb⟩ := elemI.parts
  have hr := run_make (P := Tryd.prog) w 33 3 i _ Tryd.underlying33 hi hz .i64 .i64 (n : Int) (n : Int) (by omega) (by omega) (by rw [hb]; omega) (by omega)
  rw [hs, Nat.mul_one, Int.toNat_natCast] at hr
  exact hr
theorem made_at (n j : Nat) (h : j < n) : (madeCells #[.int .i64 0] n)[j]? = some (.int .i64 0) := by
  rw [← Array.getElem?_toList, toList_madeCells_one, List.getElem?_replicate, if_pos h]

set_option maxHeartbeats 1000000 in
set_option maxRecDepth 100000 in
theorem bytes_calls (s : ByteArray) (w : World) (h0 : 0 < s.size) (hn : s.size ≤ 1048576) :
    Calls Tryd.prog 75 #[.string s] w (Nums s.size (byF s) w) := by
  have hm := makeI s.size hn
  obtain ⟨W1, hW1⟩ : ∃ Xz, w.alloc (.cells (madeCells #[.int .i64 0] s.size) 3) = Xz := ⟨_, rfl⟩
  obtain ⟨nb, hnb⟩ : ∃ xz, w.heap.size = xz := ⟨_, rfl⟩
  have hb1 : Below w.heap.size w W1 := by rw [← hW1]; exact (Below.refl _ _).alloc (Nat.le_refl _) _
  have HN := Lib.hid (by rw [← hW1, ← hnb]; exact alloc_new rfl : W1.heap[nb]? = some (.cells (madeCells #[.int .i64 0] s.size) 3 (0, 0)))
  have EW1 := Lib.hid hW1
  have Enb := Lib.hid hnb
  clear hW1 hnb
  have hir : IR W1 nb 0 s.size (fun j => if j < 0 then byF s j else 0) := ⟨_, HN.out, by rw [size_madeCells]; omega, fun k hk => by show _ = some (Value.int .i64 (if k < 0 then byF s k else 0)); rw [if_neg (by omega), Nat.zero_add]; exact made_at _ _ hk⟩
  have HIR := Lib.hid hir
  have HB := Lib.hid hb1
  have hlo : w.heap.size ≤ nb := by rw [← Enb.out]; exact Nat.le_refl _
  clear hir hb1
  go_enter Tryd.func75, Tryd.ntmps75
  go_upto_region 3 with fail
  rw [EW1.out, Enb.out]
  clear hm
  go_loopg [10] s.size (fun g s10 wr => ∃ k : Nat, k ≤ s.size ∧ g = s.size - k ∧ s10 = .int .i64 k ∧ IR wr nb 0 s.size (fun j => if j < k then byF s j else 0) ∧ Below w.heap.size w wr)
  case atStart => exact ⟨0, Nat.zero_le _, by omega, rfl, HIR.out, HB.out⟩
  case round =>
    obtain ⟨k, hk, hg, rfl, hir, hbw⟩ := hrel
    have HG := Lib.hid hg
    have HIR := Lib.hid hir
    have HBW := Lib.hid hbw
    clear hg hir hbw
    by_cases hlt : k < s.size
    · have c0 := HIR.out.cell hlt
      have cf := HIR.out.free
      have cz := HIR.out.lt
      simp only [Nat.zero_add] at c0
      have hi1 : (k : Int) < s.size := by omega
      have hi2 : (0 : Int) ≤ k := by omega
      have hbl := (s[k]'hlt).toNat_lt
      have hw : IntKind.i64.wrap (((s[k]'hlt).toNat : Nat) : Int) = ((s[k]'hlt).toNat : Int) := i64w _ (by omega) (by omega)
      obtain ⟨W2, hW2⟩ : ∃ z, wr.setCell ⟨nb, k, none⟩ (.int .i64 ((s[k]'hlt).toNat : Int)) = z := ⟨_, rfl⟩
      have hset := HIR.out.set hlt ((s[k]'hlt).toNat : Int)
      rw [Nat.zero_add, hW2] at hset
      have HS := Lib.hid (hset.ext (f' := fun j => if j < k + 1 then byF s j else 0) (fun j hj => by
        unfold ups
        by_cases e : j = k
        · subst e
          rw [if_pos rfl, if_pos (by omega)]
          unfold byF
          rw [Kit.byte_at hlt]
        · rw [if_neg e]
          show (if j < k then byF s j else 0) = _
          by_cases e2 : j < k
          · rw [if_pos e2, if_pos (by omega)]
          · rw [if_neg e2, if_neg (by omega)]))
      have HB2 := Lib.hid (hW2 ▸ HBW.out.setCell hlo _ : Below w.heap.size w W2)
      have HW2 := Lib.hid hW2
      clear hset hW2 hbl
      go_wp2_with fail
      rw [HW2.out]
      go_roundg (s.size - (k + 1))
      case measure => have := HG.out; omega
      case rel => exact ⟨k + 1, by omega, rfl, by go_num, HS.out, HB2.out⟩
    · have hkl : k = s.size := by omega
      subst hkl
      go_wp2_with fail
      go_ret
      exact ⟨nb, 0, s.size, rfl, HIR.out.ext (fun j hj => if_pos hj), Nat.le_refl _, hlo, HBW.out⟩
end Go.Proofs.YtkjkgpdfhmoenaaDoor.BpeGo
namespace Go.Proofs.YtkjkgpdfhmoenaaDoor.BpeGo
open Go Go.RowKit Go.Proofs.YtkjkgpdfhmoenaaDoor.Kit Go.Proofs.YtkjkgpdfhmoenaaDoor.Range Go.Proofs.YtkjkgpdfhmoenaaDoor.Round Go.Proofs.YtkjkgpdfhmoenaaDoor.Seg Go.Proofs.YtkjkgpdfhmoenaaDoor.Collect Go.Proofs.YtkjkgpdfhmoenaaDoor.Dt Go.Proofs.YtkjkgpdfhmoenaaDoor.MoNew Go.Proofs.YtkjkgpdfhmoenaaDoor.ChainLaw Go.Proofs.YtkjkgpdfhmoenaaDoor.BpeLaw Go.Proofs.YtkjkgpdfhmoenaaDoor.EncLaw Go.Proofs.YtkjkgpdfhmoenaaDoor.Chain Go.Proofs.YtkjkgpdfhmoenaaDoor.Heap Go.Proofs.YtkjkgpdfhmoenaaDoor.BpeMg
attribute [local irreducible] wpQuiet wpStill
set_option linter.unusedSimpArgs false

/-- Where work lies. -/
structure Wp where
  wb : Nat
  cb : Nat
  hb : Nat
  gi : Nat
  oi : Nat
  ci : Nat
  p : Cp
/-- Ids that are being merged, as they lie in memory. -/
structure Work (w : World) (base mb n : Nat) (P : Wp) (ids : Nat → Int) (L : List Nat) (v : Value) (H : List Pr) : Prop where
  c : w.heap[P.wb]? = some (.cells #[.pointer (some ⟨mb, 0, none⟩), .slice (some ⟨P.gi, P.oi, none⟩) n P.ci, .pointer (some ⟨P.cb, 0, none⟩), .pointer (some ⟨P.hb, 0, none⟩)] 201 (0, 0))
  i : IR w P.gi P.oi n ids
  ch : Chn w P.cb P.p n L
  h : HeapAt w base P.hb v H
  hp : Hp H
  d : P.gi ≠ P.p.g1 ∧ P.gi ≠ P.p.g2
  lo : base ≤ P.wb ∧ base ≤ P.gi ∧ base ≤ P.hb ∧ ∀ b, Cb P.cb P.p b → base ≤ b
theorem Work.below {w w' : World} {base mb n : Nat} {P : Wp} {ids : Nat → Int} {L : List Nat} {v : Value} {H : List Pr} (h : Work w base mb n P ids L v H) (hb : Below w.heap.size w w') : Work w' base mb n P ids L v H :=
  ⟨(hb.block _ (lt_of_heap h.c)).trans h.c, h.i.below hb, h.ch.below hb, h.h.below hb, h.hp, h.d, h.lo⟩
theorem own_pair {w : World} {base hb : Nat} {v : Value} {H : List Pr} {b : Nat} {cs : Array Value} {t : TypeId} {fr : Nat × Nat} (h : HeapAt w base hb v H) (hb' : w.heap[b]? = some (.cells cs t fr)) (h1 : t ≠ 183) (h2 : t ≠ 218) : ¬ Hb hb v b := by
  rintro (rfl | h3)
  · rw [h.c] at hb'
    simp only [Option.some.injEq, Obj.cells.injEq] at hb'
    exact h2 hb'.2.1.symm
  · exact no_own h.r hb' (Ne.symm h1) h3
/-- Only the heap was changed. -/
theorem Work.heap {w w' : World} {base mb n : Nat} {P : Wp} {ids : Nat → Int} {L : List Nat} {v v' : Value} {H H' : List Pr} (h : Work w base mb n P ids L v H) (hu : Upd (Hb P.hb v) w w') (hh : HeapAt w' base P.hb v' H') (hp : Hp H') : Work w' base mb n P ids L v' H' := by
  have key : ∀ (b : Nat) (cs : Array Value) (t : TypeId) (fr : Nat × Nat), w.heap[b]? = some (.cells cs t fr) → t ≠ 183 → t ≠ 218 → w'.heap[b]? = w.heap[b]? := fun b cs t fr hb h1 h2 => hu.block b (lt_of_heap hb) (own_pair h.h hb h1 h2)
  have ki : ∀ (g o m : Nat) (f : Nat → Int), IR w g o m f → w'.heap[g]? = w.heap[g]? := fun g o m f hi => by
    obtain ⟨cur, hc, _⟩ := hi
    exact key g cur _ _ hc (by decide) (by decide)
  refine ⟨(key _ _ _ _ h.c (by decide) (by decide)).trans h.c, h.i.keep (ki _ _ _ _ h.i), h.ch.keep fun b hb _ => ?_, hh, hp, h.d, h.lo⟩
  rcases hb with rfl | rfl | rfl
  · exact key _ _ _ _ h.ch.c (by decide) (by decide)
  · exact ki _ _ _ _ h.ch.n1
  · exact ki _ _ _ _ h.ch.n2

/-- The first k pairs were looked at. -/
structure Beg (D : Dt) (n k : Nat) (ids : Nat → Int) (H : List Pr) : Prop where
  has : ∀ i r id, i < k → i + 1 < n → mg D (ids i) (ids (i + 1)) = some (r, id) → (⟨r, i, (i + 1 : Nat), ids i, ids (i + 1), id⟩ : Pr) ∈ H
  ok : ∀ x ∈ H, mg D x.a x.b = some (x.rank, x.id) ∧ ∃ i j : Nat, x.left = i ∧ x.right = j ∧ i < n ∧ j < n
  len : H.length ≤ k
theorem Beg.step {D : Dt} {n k : Nat} {ids : Nat → Int} {H H' : List Pr} (h : Beg D n k ids H) (hk : k + 1 < n) (hp : Put (mg D) ids k (k + 1) H H') (hl : H'.length ≤ H.length + 1) : Beg D n (k + 1) ids H' := by
  refine ⟨fun i r id hi hin hm => ?_, hp.ok (by omega) hk h.ok, by have := h.len; omega⟩
  rcases Nat.eq_or_lt_of_le (Nat.le_of_lt_succ hi) with rfl | h1
  · exact hp.new hm
  · exact hp.old (h.has i r id h1 hin hm)
theorem Beg.last {D : Dt} {n k : Nat} {ids : Nat → Int} {H : List Pr} (h : Beg D n k ids H) (hk : n ≤ k + 1) : Beg D n (k + 1) ids H :=
  ⟨fun i r id hi hin hm => h.has i r id (by omega) hin hm, h.ok, by have := h.len; omega⟩
theorem Beg.inv {D : Dt} {n : Nat} {ids : Nat → Int} {H : List Pr} (h : Beg D n n ids H) : Inv (mg D) n ids (List.range' 0 n) H := by
  refine ⟨List.pairwise_lt_range', fun i hi => by simpa using hi, fun A i j B r id hL hm => ?_, h.ok⟩
  have hi : (List.range' 0 n)[A.length]? = some i := by rw [hL]; simp
  have hj : (List.range' 0 n)[A.length + 1]? = some j := by rw [hL]; simp
  have hl : A.length + 1 < n := by
    have := congrArg List.length hL
    simp at this
    omega
  rw [List.getElem?_range' (by omega)] at hi hj
  simp only [Option.some.injEq] at hi hj
  have e1 : i = A.length := by omega
  have e2 : j = i + 1 := by omega
  subst e2
  exact h.has i r id (by omega) (by omega) hm

def Begun (D : Dt) (mb n : Nat) (ids : Nat → Int) (w : World) (e : Ending) (w' : World) : Prop :=
  ∃ P v H, e = .returned (.pointer (some ⟨P.wb, 0, none⟩)) ∧ Work w' w.heap.size mb n P ids (List.range' 0 n) v H ∧ Inv (mg D) n ids (List.range' 0 n) H ∧ H.length ≤ n ∧ Below w.heap.size w w'

set_option maxHeartbeats 2000000 in
set_option maxRecDepth 100000 in
theorem begin_calls (D : Dt) (mb g o n cap : Nat) (f : Nat → Int) (w : World) (hM : Mod w mb D) (h : IR w g o n f) (h0 : 0 < n) (hn : n ≤ 1048576) :
    Calls Tryd.prog 97 #[.pointer (some ⟨mb, 0, none⟩), .slice (some ⟨g, o, none⟩) n cap] w (Begun D mb n f w) := by
  have HC := Lib.hid (Clone_calls g o n cap f w h h0 hn)
  have HM := Lib.hid hM
  clear h hM
  go_enter Tryd.func97, Tryd.ntmps97
  go_wp2_with fail
  refine HC.out.mono ?_
  rintro e W1 ⟨gi, oi, ci, rfl, hi, hci, hgi, hb1⟩
  have HI := Lib.hid hi
  have HGI := Lib.hid hgi
  have HB1 := Lib.hid hb1
  clear HC hi hci hgi hb1
  go_wp2_with fail
  refine (Chain.New_calls n W1 hn h0).mono ?_
  rintro e W2 ⟨cb, p, rfl, hch, hcl, hb2⟩
  have HCH := Lib.hid hch
  have HCL := Lib.hid hcl
  have HB2 := Lib.hid hb2
  clear hch hcl hb2
  go_wp2_with fail
  refine (Heap.New_calls W2).mono ?_
  rintro e W3 ⟨hb, rfl, hh, hhl, hb3⟩
  have HH := Lib.hid hh
  have HHL := Lib.hid hhl
  have HB3 := Lib.hid hb3
  clear hh hhl hb3
  obtain ⟨W4, hW4⟩ : ∃ z, W3.alloc (.cells #[.pointer (some ⟨mb, 0, none⟩), .slice (some ⟨gi, oi, none⟩) n ci, .pointer (some ⟨cb, 0, none⟩), .pointer (some ⟨hb, 0, none⟩)] 201) = z := ⟨_, rfl⟩
  obtain ⟨wb, hwb⟩ : ∃ z, W3.heap.size = z := ⟨_, rfl⟩
  have hb4 : Below W3.heap.size W3 W4 := by rw [← hW4]; exact (Below.refl _ _).alloc (Nat.le_refl _) _
  have b12 := HB1.out.size
  have b23 := HB2.out.size
  have b34 := HB3.out.size
  have hbw4 : Below w.heap.size w W4 := chain (chain (chain HB1.out HB2.out) HB3.out) hb4
  have hwork : Work W4 w.heap.size mb n ⟨wb, cb, hb, gi, oi, ci, p⟩ f (List.range' 0 n) (.slice none 0 0) [] := by
    refine ⟨by rw [← hW4, ← hwb]; exact alloc_new rfl, HI.out.below (chain (chain HB2.out HB3.out) hb4), HCH.out.below (chain HB3.out hb4), ⟨(hb4.block _ (lt_of_heap HH.out.c)).trans HH.out.c, Seg.nil _ _ _ _, hbw4.size⟩, fun k hk hkl => by simp at hkl, ?_, ?_⟩
    · have h1 := HI.out.lt
      have h2 := HCL.out p.g1 (.inr (.inl rfl))
      have h3 := HCL.out p.g2 (.inr (.inr rfl))
      exact ⟨by show gi ≠ p.g1; omega, by show gi ≠ p.g2; omega⟩
    · refine ⟨by show _ ≤ wb; omega, HGI.out, by have := HHL.out; show _ ≤ hb; omega, fun b hb' => ?_⟩
      have := HCL.out b hb'
      omega
  have HWK := Lib.hid hwork
  have HBW4 := Lib.hid hbw4
  have EW4 := Lib.hid hW4
  have Ewb := Lib.hid hwb
  clear hwork hbw4 hW4 hwb hb4 b12 b23 b34 HI HGI HB1 HCH HCL HB2 HH HHL HB3
  go_upto_region 3 with fail
  rw [EW4.out, Ewb.out]
  go_loopg [18] n (fun gg s18 wr => ∃ (k : Nat) (v : Value) (H : List Pr), k ≤ n ∧ gg = n - k ∧ s18 = .int .i64 k ∧ Work wr w.heap.size mb n ⟨wb, cb, hb, gi, oi, ci, p⟩ f (List.range' 0 n) v H ∧ Beg D n k f H ∧ Below w.heap.size w wr)
  case atStart => exact ⟨0, _, [], Nat.zero_le _, by omega, rfl, HWK.out, ⟨fun i r id h => (by omega), fun x hx => (by cases hx), Nat.le_refl _⟩, HBW4.out⟩
  case round =>
    obtain ⟨k, v, H, hk, hg, rfl, hwk, hbg, hbw⟩ := hrel
    have HG := Lib.hid hg
    have HK := Lib.hid hwk
    have HBG := Lib.hid hbg
    have HBW := Lib.hid hbw
    have hlen := hbg.len
    clear hg hwk hbg hbw HWK
    by_cases hlt : k < n
    · have hi1 : (k : Int) < n := by omega
      have hw1 : IntKind.i64.wrap ((k : Int) + 1) = ((k + 1 : Nat) : Int) := by rw [i64w _ (by omega) (by omega)]; omega
      by_cases hk1 : k + 1 < n
      · have HL := Lib.hid (look_calls D mb wb cb hb w.heap.size gi oi n ci f v H k (k + 1) wr (HM.out.below HBW.out) HK.out.c HK.out.i HK.out.h HK.out.hp (by omega) hlt hk1)
        go_wp2_with fail
        refine HL.out.mono ?_
        rintro e W5 ⟨rfl, v', H', q1, q2, q3, q4, q5, q6⟩
        have hown : ∀ b, Hb hb v b → w.heap.size ≤ b := fun b hb' => by
          rcases hb' with h | h
          · rw [h]; exact HK.out.lo.2.2.1
          · exact (Seg.lt HK.out.h.r b h).1
        have HK2 := Lib.hid (HK.out.heap q5 q1 q2)
        have HBG2 := Lib.hid (HBG.out.step hk1 q3 q4)
        have HBW2 := Lib.hid (HBW.out.trans (q5.below HBW.out.size (fun b hb' h => by have := hown b h; omega)))
        clear q1 q2 q3 q4 q5 q6 hown HL
        go_wp2_with fail
        go_roundg (n - (k + 1))
        case measure => have := HG.out; omega
        case rel => exact ⟨k + 1, v', H', by omega, rfl, by go_num, HK2.out, HBG2.out, HBW2.out⟩
      · have HL := Lib.hid (look_none wb gi oi n ci _ _ _ k ((k + 1 : Nat) : Int) wr HK.out.c (.inr (.inr ⟨by omega, by omega, by omega⟩)))
        go_wp2_with fail
        refine HL.out.mono ?_
        rintro e W5 ⟨rfl, rfl⟩
        have HBG2 := Lib.hid (HBG.out.last (by omega))
        clear HL
        go_wp2_with fail
        go_roundg (n - (k + 1))
        case measure => have := HG.out; omega
        case rel => exact ⟨k + 1, v, H, by omega, rfl, by go_num, HK.out, HBG2.out, HBW.out⟩
    · have hkn : k = n := by omega
      subst hkn
      go_wp2_with fail
      go_ret
      exact ⟨_, v, H, rfl, HK.out, HBG.out.inv, hlen, HBW.out⟩
end Go.Proofs.YtkjkgpdfhmoenaaDoor.BpeGo
