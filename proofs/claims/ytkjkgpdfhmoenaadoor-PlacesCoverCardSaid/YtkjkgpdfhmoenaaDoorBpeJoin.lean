/-
  bpe.work: left; bpe.Joined; bpe.Merge.
-/
import Derived.Test.YtkjkgpdfhmoenaaDoorBpeStep
import Derived.Test.YtkjkgpdfhmoenaaDoorChain
import Derived.Test.YtkjkgpdfhmoenaaDoorEncLaw
import Derived.Test.YtkjkgpdfhmoenaaDoorCollect
namespace Go.Proofs.YtkjkgpdfhmoenaaDoor.BpeGo
open Go Go.RowKit Go.Proofs.YtkjkgpdfhmoenaaDoor.Kit Go.Proofs.YtkjkgpdfhmoenaaDoor.Range Go.Proofs.YtkjkgpdfhmoenaaDoor.Round Go.Proofs.YtkjkgpdfhmoenaaDoor.Seg Go.Proofs.YtkjkgpdfhmoenaaDoor.Collect Go.Proofs.YtkjkgpdfhmoenaaDoor.Dt Go.Proofs.YtkjkgpdfhmoenaaDoor.Mo Go.Proofs.YtkjkgpdfhmoenaaDoor.MoNew Go.Proofs.YtkjkgpdfhmoenaaDoor.ChainLaw Go.Proofs.YtkjkgpdfhmoenaaDoor.BpeLaw Go.Proofs.YtkjkgpdfhmoenaaDoor.EncLaw Go.Proofs.YtkjkgpdfhmoenaaDoor.Chain Go.Proofs.YtkjkgpdfhmoenaaDoor.Heap Go.Proofs.YtkjkgpdfhmoenaaDoor.BpeMg
attribute [local irreducible] wpQuiet wpStill
attribute [local go_sem] Oper.semAt_some
set_option linter.unusedSimpArgs false

/-- Numbers as values. -/
def vals (l : List Int) : List Value := l.map fun x => .int .i64 x
theorem vals_len (l : List Int) : (vals l).length = l.length := by simp [vals]
theorem vals_app (a b : List Int) : vals (a ++ b) = vals a ++ vals b := by simp [vals]
theorem vals_take {l : List Int} {k : Nat} (h : k < l.length) : vals (l.take (k + 1)) = vals (l.take k) ++ [.int .i64 (l.getD k 0)] := by
  unfold vals
  rw [List.take_add_one, List.getElem?_eq_getElem h, List.map_append, List.getD_eq_getElem?_getD, List.getElem?_eq_getElem h]
  rfl
/-- A list of numbers of the call's own. -/
def NRow (w : World) (base : Nat) (v : Value) (l : List Int) : Prop := Seg w base 3 1 v l.length (vals l)

def Lefted (w : World) (l : List Int) (e : Ending) (w' : World) : Prop := ∃ v, e = .returned v ∧ NRow w' w.heap.size v l ∧ Below w.heap.size w w'

set_option maxHeartbeats 2000000 in
set_option maxRecDepth 100000 in
theorem left_calls (base mb n : Nat) (P : Wp) (ids : Nat → Int) (L : List Nat) (v : Value) (H : List Pr) (w : World) (hK : Work w base mb n P ids L v H) (hn : n ≤ 1048576) (hnd : L.Nodup) :
    Calls Tryd.prog 99 #[.pointer (some ⟨P.wb, 0, none⟩)] w (Lefted w (L.map ids)) := by
  have hlen : L.length ≤ n := by
    have := List.Nodup.length_le_of_subset (l₂ := List.range n) hnd (fun k hk => List.mem_range.2 (hK.ch.lt k hk))
    simpa using this
  refine calls_of_wp_marks Tryd.func99 rfl ?_
  simp only [Tryd.ntmps99, List.size_toArray, List.length_cons, List.length_nil, Nat.reduceAdd, Nat.reduceSub, Array.replicate_succ, Array.replicate_zero, List.push_toArray, List.append_toArray, List.nil_append, List.cons_append]
  obtain ⟨W1, hW1⟩ : ∃ Xz, w.alloc (.cells #[.pointer (some ⟨P.wb, 0, none⟩)] 180) = Xz := ⟨_, rfl⟩
  obtain ⟨pb, hpb⟩ : ∃ xz, w.heap.size = xz := ⟨_, rfl⟩
  have hb1 : Below w.heap.size w W1 := by rw [← hW1]; exact (Below.refl _ _).alloc (Nat.le_refl _) _
  have HP := Lib.hid (by rw [← hW1, ← hpb]; exact alloc_new rfl : W1.heap[pb]? = some (.cells #[.pointer (some ⟨P.wb, 0, none⟩)] 180 (0, 0)))
  have EW1 := Lib.hid hW1
  have Epb := Lib.hid hpb
  clear hW1 hpb
  obtain ⟨W2, hW2⟩ : ∃ Xz, W1.alloc (.cells #[.slice none 0 0] 33) = Xz := ⟨_, rfl⟩
  obtain ⟨bl, hbl⟩ : ∃ xz, W1.heap.size = xz := ⟨_, rfl⟩
  have hb2 : Below W1.heap.size W1 W2 := by rw [← hW2]; exact (Below.refl _ _).alloc (Nat.le_refl _) _
  have HL := Lib.hid (by rw [← hW2, ← hbl]; exact alloc_new rfl : W2.heap[bl]? = some (.cells #[.slice none 0 0] 33 (0, 0)))
  have EW2 := Lib.hid hW2
  have Ebl := Lib.hid hbl
  clear hW2 hbl
  obtain ⟨W3, hW3⟩ : ∃ Xz, W2.alloc (.cells #[.pointer (some ⟨P.cb, 0, none⟩)] 195) = Xz := ⟨_, rfl⟩
  obtain ⟨xb, hxb⟩ : ∃ xz, W2.heap.size = xz := ⟨_, rfl⟩
  have hb3 : Below W2.heap.size W2 W3 := by rw [← hW3]; exact (Below.refl _ _).alloc (Nat.le_refl _) _
  have HX := Lib.hid (by rw [← hW3, ← hxb]; exact alloc_new rfl : W3.heap[xb]? = some (.cells #[.pointer (some ⟨P.cb, 0, none⟩)] 195 (0, 0)))
  have EW3 := Lib.hid hW3
  have Exb := Lib.hid hxb
  clear hW3 hxb
  have o1 : w.heap.size ≤ pb := Nat.le_of_eq Epb.out
  have o2 : pb < bl := Nat.lt_of_lt_of_le (lt_of_heap HP.out) (Nat.le_of_eq Ebl.out)
  have o3 : bl < xb := Nat.lt_of_lt_of_le (lt_of_heap HL.out) (Nat.le_of_eq Exb.out)
  have o4 : xb < W3.heap.size := lt_of_heap HX.out
  have HP2 := Lib.hid ((hb2.block _ (lt_of_heap HP.out)).trans HP.out)
  have HP3 := Lib.hid ((hb3.block _ (lt_of_heap HP2.out)).trans HP2.out)
  have HL3 := Lib.hid ((hb3.block _ (lt_of_heap HL.out)).trans HL.out)
  have hB : Below w.heap.size w W3 := chain (chain hb1 hb2) hb3
  have HB := Lib.hid hB
  have owb := lt_of_heap hK.c
  have ogi := hK.i.lt
  have HK3 := Lib.hid (hK.below hB)
  have HK2 := Lib.hid (hK.below (chain hb1 hb2))
  have HC := Lib.hid HK2.out.c
  clear hb1 hb2 hb3 hB hK
  have p0 := cell_at HP2.out 0
  have pz := lt_of_heap HP2.out
  simp only [List.getElem?_toArray, List.getElem?_cons_zero] at p0
  have c2 := cell_at HC.out 2
  have cz := lt_of_heap HC.out
  simp only [List.getElem?_toArray, List.getElem?_cons_zero, List.getElem?_cons_succ] at c2
  go_upto_region 1 with fail
  rw [EW1.out, Epb.out]
  go_upto_region 2 with fail
  rw [EW2.out, Ebl.out]
  go_wp2_with fail
  refine (All_calls P.cb W2).mono ?_
  rintro e W ⟨rfl, rfl⟩
  rw [EW3.out, Exb.out]
  clear p0 pz c2 cz
  go_wp2_with fail
  refine range_outer (w0 := W3) (N := L.length) (Cap := fun b => b = xb ∨ Cb P.cb P.p b) (gf := 132) (lb := #[.pointer (some ⟨xb, 0, none⟩)]) (encs := fun k => #[.int .i64 (L.getD k 0 : Nat)]) rfl (Go.Proofs.enters_of Tryd.func132 (by kernel_rfl) rfl)
    (all_iter W3 xb HX.out HK3.out.ch) (Below.refl _ _) (fun _ => rfl) ?cap
    (fun k S W => ∃ v, (∀ b, S b ↔ b = bl ∨ v.ownBlock = some b) ∧ Col 33 3 1 k (vals ((L.map ids).take k)) bl W3 v W)
    (fun c k S W => False)
    ?ki ?kx (fun b => b = bl) ⟨.slice none 0 0, fun b => by simp [Value.ownBlock], ⟨Upd.refl _ _, HL3.out, Seg.nil _ _ _ _⟩⟩ ?s0 ?round ?done ?stop
  case cap =>
    rintro b (rfl | hb)
    · exact o4
    · obtain ⟨cs, t, fr, h1, _⟩ := cb_type HK3.out.ch hb
      exact lt_of_heap h1
  case ki =>
    rintro k S A B ⟨v, hS, hst⟩ hu
    exact ⟨v, hS, hst.keep hu (fun h => h.2 ((hS _).2 (.inl rfl))) (fun b hb h => h.2 ((hS _).2 (.inr hb))) (fun b hb h => by have := h.1; omega)⟩
  case kx =>
    rintro c k S A B h hu
    exact h
  case s0 =>
    rintro b rfl
    refine ⟨by omega, ?_⟩
    rintro (h | h)
    · omega
    · obtain ⟨cs, t, fr, h1, h2⟩ := cb_type HK3.out.ch h
      rw [HL3.out] at h1
      simp only [Option.some.injEq, Obj.cells.injEq] at h1
      rw [← h1.2.1] at h2
      exact absurd h2 (by decide)
  case round =>
    rintro l k S A hk ⟨v, hS, hst⟩ h1 h2 h3 h4 h5 h6
    have hin : L.getD k 0 < n := by
      rw [List.getD_eq_getElem?_getD, List.getElem?_eq_getElem hk]
      exact HK3.out.ch.lt _ (List.getElem_mem hk)
    have hmp : (L.map ids).getD k 0 = ids (L.getD k 0) := by
      rw [List.getD_eq_getElem?_getD, List.getD_eq_getElem?_getD, List.getElem?_map, List.getElem?_eq_getElem hk]
      rfl
    obtain ⟨x, hx⟩ : ∃ x, L.getD k 0 = x := ⟨_, rfl⟩
    rw [hx] at hin hmp ⊢
    have HX0 := Lib.hid hmp
    have H6 := Lib.hid h6
    clear hx hmp hst h5 h6 hS
    gi_wp2
    refine ⟨Below.refl _ _, fun A2 hu hz hI2 hr2 => ?_⟩
    obtain ⟨v2, hS2, hst2⟩ := hI2
    have HST := Lib.hid hst2
    have HS2 := Lib.hid hS2
    have HI2 := Lib.hid (HK3.out.i.keep (hst2.u.block _ HK3.out.i.lt (by omega)))
    have HC2 := Lib.hid ((hst2.u.block _ (lt_of_heap HK3.out.c) (by omega)).trans HK3.out.c)
    have HP4 := Lib.hid ((hst2.u.block _ (lt_of_heap HP3.out) (by omega)).trans HP3.out)
    have hzz0 := hst2.u.size
    have oA : A.heap.size = A2.heap.size := hz.symm
    clear hS2 hst2 hr2 hu hz
    obtain ⟨An, hAn⟩ : ∃ Xz, A2.alloc (.cells #[.int .i64 (ids x)] 3) = Xz := ⟨_, rfl⟩
    obtain ⟨bq, hbq⟩ : ∃ xz, A2.heap.size = xz := ⟨_, rfl⟩
    have hbn : Below A2.heap.size A2 An := by rw [← hAn]; exact (Below.refl _ _).alloc (Nat.le_refl _) _
    have HN0 := Lib.hid (by rw [← hAn, ← hbq]; exact alloc_new rfl : An.heap[bq]? = some (.cells #[.int .i64 (ids x)] 3 (0, 0)))
    have EAn := Lib.hid hAn
    have Ebq := Lib.hid hbq
    clear hAn hbq
    obtain ⟨A3, hA3⟩ : ∃ z, An.drew = z := ⟨_, rfl⟩
    have hbn' : Below A2.heap.size A2 A3 := by rw [← hA3]; exact hbn.drew
    have HN := Lib.hid (show A3.heap[bq]? = some (.cells #[.int .i64 (ids x)] 3 (0, 0)) from by rw [← hA3]; exact HN0.out)
    have EA3 := Lib.hid hA3
    obtain ⟨v3, A4, hrun, hcl, hcol, hu4, hown, ⟨av, cv, hvv⟩, hzz⟩ := Col.next elemI (HST.out.below hbn') HN.out rfl (by simp [Value.oneCell']) (by unfold maxLen; omega) (by omega) (by omega) 33
    subst hvv
    have HCOL := Lib.hid hcol
    have HCL := Lib.hid hcl
    have HU4 := Lib.hid hu4
    have HOWN := Lib.hid hown
    have HC0 := Lib.hid HST.out.c
    have o6 := hbn'.size
    have HBN := Lib.hid hbn'
    have v1 := HI2.out.cell hin
    have gz := HI2.out.lt
    have i1 : (x : Int) < n := by omega
    have i2 : (0 : Int) ≤ x := by omega
    rw [← EA3.out, ← EAn.out, ← Ebq.out] at hrun
    clear hcol hcl hu4 hown hbn hA3
    have c0 := cell_at HC0.out 0
    have cz := lt_of_heap HC0.out
    simp only [List.getElem?_toArray, List.getElem?_cons_zero] at c0
    have k1 := cell_at HC2.out 1
    have kz := lt_of_heap HC2.out
    simp only [List.getElem?_toArray, List.getElem?_cons_zero, List.getElem?_cons_succ] at k1
    have p0 := cell_at HP4.out 0
    have pz := lt_of_heap HP4.out
    simp only [List.getElem?_toArray, List.getElem?_cons_zero] at p0
    have q0 := cell_at HCL.out 0
    have qf := free_all HCL.out
    have qz := lt_of_heap HCL.out
    simp only [List.getElem?_toArray, List.getElem?_cons_zero] at q0
    have HRUN := Lib.hid hrun
    clear hrun
    gi_upto_region 4 with fail
    have hsz3 := HST.out.u.size
    have hS4 : ∀ b, b < W3.heap.size → b ≠ bl → A4.heap[b]? = A2.heap[b]? := fun b h1 h2 => by
      have h3 := HU4.out.block b (by omega) (by
        rintro (h | h)
        · exact h2 h
        · have := (HST.out.r.lt b h).1; omega)
      rw [Below.heap_setCell _ _ _ _ h2] at h3
      rw [h3]
      exact HBN.out.block b (by omega)
    have HS4 := Lib.hid (show A4.cell? ⟨bl, 0, none⟩ = some v2 ∧ A4.cell? ⟨pb, 0, none⟩ = some (.pointer (some ⟨P.wb, 0, none⟩)) ∧ A4.cell? ⟨P.wb, 1, none⟩ = some (.slice (some ⟨P.gi, P.oi, none⟩) n P.ci) ∧ A4.cell? ⟨P.gi, P.oi + x, none⟩ = some (.int .i64 (ids x)) from
      ⟨q0, (World.cell?_of_block (hS4 pb (by omega) (by omega))).trans p0, (World.cell?_of_block (hS4 P.wb (by omega) (by omega))).trans k1, (World.cell?_of_block (hS4 P.gi (by omega) (by omega))).trans v1⟩)
    have HS3 := Lib.hid (show A3.cell? ⟨bl, 0, none⟩ = some v2 ∧ A3.cell? ⟨pb, 0, none⟩ = some (.pointer (some ⟨P.wb, 0, none⟩)) ∧ A3.cell? ⟨P.wb, 1, none⟩ = some (.slice (some ⟨P.gi, P.oi, none⟩) n P.ci) ∧ A3.cell? ⟨P.gi, P.oi + x, none⟩ = some (.int .i64 (ids x)) from
      ⟨((bcell HBN.out).1 bl 0 cz).trans c0, ((bcell HBN.out).1 pb 0 pz).trans p0, ((bcell HBN.out).1 P.wb 1 kz).trans k1, ((bcell HBN.out).1 P.gi (P.oi + x) gz).trans v1⟩)
    refine Rgin.RGO_begin_in (fun w' => w'.cell? ⟨bl, 0, none⟩ = some v2 ∧ w'.cell? ⟨pb, 0, none⟩ = some (.pointer (some ⟨P.wb, 0, none⟩)) ∧ w'.cell? ⟨P.wb, 1, none⟩ = some (.slice (some ⟨P.gi, P.oi, none⟩) n P.ci) ∧ w'.cell? ⟨P.gi, P.oi + x, none⟩ = some (.int .i64 (ids x))) 10 11 [(0, 11), (1, 12), (5, 16), (2, 13), (3, 14), (4, 15), (6, 17), (7, 18)] (by rfl) (by decide +kernel) (by kernel_rfl) (by kernel_rfl) (⟨c0, p0, k1, v1⟩) (fun R hR => ?_)
    repeat ((first | refine Rgu.RGO_take (by exact rfl) (by exact rfl) (by decide +kernel) (by exact rfl) (by intro w' hw'; obtain ⟨y0, y1, y2, y3⟩ := hw'; go_simp; try with_reducible rfl) ?_ | refine Rgu.RGO_skip (by exact rfl) (by exact rfl) (by decide +kernel) (by exact rfl) ?_); try simp only [Act.put, List.setIfInBounds_toArray, List.set_cons_zero, List.set_cons_succ])
    refine Rgu.RGO_one 8 [] (by exact rfl) (by decide +kernel) (by exact rfl) (fun K hK => ?_)
    go_wp2_with (fail)
    refine hK _ _ (by rw [EAn.out, EA3.out]; exact HS3.out) ?_
    clear hK K
    try simp only [Act.put, List.setIfInBounds_toArray, List.set_cons_zero, List.set_cons_succ]
    refine Rgu.RGO_one 9 [] (by exact rfl) (by decide +kernel) (by exact rfl) (fun K hK => ?_)
    refine Rgu.append_op rfl rfl rfl HRUN.out ?_
    refine hK _ _ (HS4.out) ?_
    clear hK K
    try simp only [Act.put, List.setIfInBounds_toArray, List.set_cons_zero, List.set_cons_succ]
    refine Rgu.RGO_last 10 (by exact rfl) (by decide +kernel) (by exact rfl) (fun K hK => ?_)
    go_wp2_with (fail)
    try (refine hK _ _ ?_; clear hK K)
    try simp only [Act.put, List.setIfInBounds_toArray, List.set_cons_zero, List.set_cons_succ]
    refine Rgu.RGH_done (by decide +kernel) (hR _ _ ?_)
    go_wp2_with fail
    have hz4 := HU4.out.size
    have hft := vals_take (l := L.map ids) (k := k) (by simpa using hk)
    rw [HX0.out] at hft
    rw [← hft] at HCOL
    refine ⟨fun b => b = bl ∨ (Value.slice (some av) (k + 1) cv).ownBlock = some b, ⟨_, fun b => Iff.rfl, HCOL.out⟩, ?_, fun b hb => ⟨?_, ?_⟩⟩
    · refine (Upd.of_below HBN.out : Upd (fun b => S b ∨ A.heap.size ≤ b) A2 A3).trans (HU4.out.mono fun b _ hh => .inl ((HS2.out b).2 hh))
    · rcases hb with hb | hb
      · exact .inl ((HS2.out b).2 (.inl hb))
      · rcases HOWN.out b hb with h7 | h7
        · exact .inl ((HS2.out b).2 (.inr h7))
        · exact .inr (by omega)
    · rcases hb with hb | hb
      · have := HCOL.out.c
        rw [hb]
        exact lt_of_heap this
      · exact (HCOL.out.r.lt b hb).2
  case done =>
    rintro S B ⟨v, hS, hst⟩ hD
    rw [List.take_of_length_le (by simp)] at hst
    have HST := Lib.hid hst
    have HDD := Lib.hid hD
    have HBB := Lib.hid (HB.out.trans (HST.out.u.below HB.out.size (fun b hb h => by omega)))
    have HC0 := Lib.hid HST.out.c
    clear hst hD hS
    have c0 := cell_at HC0.out 0
    have cz := lt_of_heap HC0.out
    simp only [List.getElem?_toArray, List.getElem?_cons_zero] at c0
    go_wp2_with fail
    have hB := HBB.out
    refine leaves_marks (v := v) [W3.heap.size] _ (fun d hd => ?_) (by simp) (fun w' hu => ⟨?_, v, rfl, ?_, ?_⟩)
    · rw [List.mem_singleton] at hd
      rw [hd]
      exact HDD.out
    · simp [results, Tryd.results99, go_sem]
    · unfold NRow
      rw [List.length_map]
      refine Seg.rebase (Seg.upd HST.out.r hu (fun b hb hh => ?_)) (fun b hb => ?_)
      · rw [List.mem_singleton] at hh
        rcases HST.out.r.at' with ⟨h9, _⟩ | ⟨g, o, cap, cur, h9, _, hg, _⟩
        · rw [h9] at hb; cases hb
        · rw [h9] at hb
          simp only [Value.ownBlock, Option.some.injEq] at hb
          rw [hb, hh, HDD.out] at hg
          cases hg
      · have := (HST.out.r.lt b hb).1
        have := HB.out.size
        omega
    · exact hB.trans (hu.below hB.size (fun k hk h => by
        rw [List.mem_singleton] at h
        have := HB.out.size
        omega))
  case stop =>
    rintro c k S B hk h hD
    exact h.elim

def Joins (w : World) (l : List Int) (e : Ending) (w' : World) : Prop := ∃ v, e = .returned (.tuple #[v, .int .i64 0]) ∧ NRow w' w.heap.size v l ∧ Below w.heap.size w w'

set_option maxHeartbeats 2000000 in
set_option maxRecDepth 100000 in
theorem Joined_calls (D : Dt) (mb g o n cap : Nat) (f : Nat → Int) (w : World) (hM : Mod w mb D) (h : IR w g o n f) (h0 : 0 < n) (hn : n ≤ 1048576) (hf : ∀ k, k < n → 0 ≤ f k ∧ f k < 256 + (D.nw : Int)) :
    Calls Tryd.prog 74 #[.pointer (some ⟨mb, 0, none⟩), .slice (some ⟨g, o, none⟩) n cap] w (Joins w (joined (mg D) ((List.range' 0 n).map f))) := by
  have HM := Lib.hid hM
  have HI := Lib.hid h
  have HF := Lib.hid hf
  have hl : ¬ ((1048576 : Int) < n) := by omega
  have hsz : ∀ z : Int, 0 ≤ z → z < 256 + (D.nw : Int) → ¬ z < 0 ∧ ¬ (256 + (D.nw : Int)) ≤ z := fun z h1 h2 => by omega
  have HSZ := Lib.hid hsz
  clear hM h hf hsz
  go_enter Tryd.func74, Tryd.ntmps74
  go_wp2_with fail
  go_loopg [20] n (fun gg s20 wr => ∃ k : Nat, k ≤ n ∧ gg = n - k ∧ s20 = .int .i64 k ∧ Below w.heap.size w wr)
  case atStart => exact ⟨0, Nat.zero_le _, by omega, rfl, Below.refl _ _⟩
  case round =>
    obtain ⟨k, hk, hg, rfl, hbw⟩ := hrel
    have HG := Lib.hid hg
    have HBW := Lib.hid hbw
    clear hg hbw
    by_cases hlt : k < n
    · have hi1 : (k : Int) < n := by omega
      have hi2 : (0 : Int) ≤ k := by omega
      have hw1 : IntKind.i64.wrap ((k : Int) + 1) = ((k + 1 : Nat) : Int) := by rw [i64w _ (by omega) (by omega)]; omega
      have HI2 := Lib.hid (HI.out.below HBW.out)
      have v1 := HI2.out.cell hlt
      have gz := HI2.out.lt
      obtain ⟨z, hz⟩ : ∃ z, f k = z := ⟨_, rfl⟩
      rw [hz] at v1
      obtain ⟨z1, z2⟩ := HSZ.out z (by rw [← hz]; exact (HF.out k hlt).1) (by rw [← hz]; exact (HF.out k hlt).2)
      have HS := Lib.hid (Good.Size_mod (HM.out.below HBW.out))
      clear hz
      go_wp2_with fail
      refine HS.out.mono ?_
      rintro e W2 ⟨rfl, rfl⟩
      go_wp2_with fail
      go_roundg (n - (k + 1))
      case measure => have := HG.out; omega
      case rel => exact ⟨k + 1, by omega, rfl, by go_num, HBW.out⟩
    · have hkn : ¬ (k : Int) < n := by omega
      obtain ⟨wo, hwo⟩ : ∃ wo : World, wo = wr := ⟨_, rfl⟩
      rw [← hwo]
      rw [← hwo] at HBW
      clear hwo
      have HBE := Lib.hid (begin_calls D mb g o n cap f wo (HM.out.below HBW.out) (HI.out.below HBW.out) h0 hn)
      go_wp2_with fail
      refine HBE.out.mono ?_
      rintro e W2 ⟨P, v, H, rfl, hwk, hinv, hlen, hb2⟩
      obtain ⟨base, hbase⟩ : ∃ b, wo.heap.size = b := ⟨_, rfl⟩
      rw [hbase] at hwk hb2
      have HWK := Lib.hid hwk
      have HINV := Lib.hid hinv
      have HB2 := Lib.hid hb2
      have HBASE := Lib.hid hbase
      have HMM := Lib.hid (fun (wr' : World) (hh : Below base wo wr') => HM.out.below (HBW.out.trans (by rw [← hbase] at hh; exact hh.mono HBW.out.size)) : ∀ wr', Below base wo wr' → Mod wr' mb D)
      clear hwk hinv hb2 hbase HBE
      go_wp2_with fail
      have hL0 : (List.range' 0 n).length = n := by simp
      go_loopg [] n (fun gg wr => ∃ (ids : Nat → Int) (L : List Nat) (v : Value) (H : List Pr), gg = L.length ∧ Work wr base mb n P ids L v H ∧ Inv (mg D) n ids L H ∧ H.length + L.length * 2 ≤ n * 3 ∧ joined (mg D) (L.map ids) = joined (mg D) ((List.range' 0 n).map f) ∧ Below base wo wr)
      case atStart => exact ⟨f, _, v, H, hL0.symm, HWK.out, HINV.out, by rw [hL0]; omega, rfl, HB2.out⟩
      case round =>
        obtain ⟨ids, L, v, H, hg, hk, hi, hh, hj, hbl⟩ := hrel
        have HG := Lib.hid hg
        have HK := Lib.hid hk
        have HI := Lib.hid hi
        have HJ := Lib.hid hj
        have HBL := Lib.hid hbl
        have HBS := Lib.hid (show base ≤ wr.heap.size from by have := HBASE.out; have := hbl.size; omega)
        have HST := Lib.hid (step_calls D mb n base P ids L v H wr (fun wr' h2 => HMM.out wr' (HBL.out.trans h2)) HK.out HI.out hh hn HBS.out)
        clear hg hk hi hj hbl
        go_wp2_with fail
        refine HST.out.mono ?_
        rintro e W3 (⟨q1, ⟨x, rfl⟩, ⟨v3, H3, q2⟩, q3⟩ | ⟨r, q, id, ids', L', v', H', q1, q2, ⟨x, rfl⟩, q3, q4, q5, q6, q7⟩)
        · unfold prV
          obtain ⟨W4, hW4⟩ : ∃ Xz, W3.alloc (.cells #[.int .i64 x.rank, .int .i64 x.left, .int .i64 x.right, .int .i64 x.a, .int .i64 x.b, .int .i64 x.id] 183) = Xz := ⟨_, rfl⟩
          obtain ⟨xb, hxb⟩ : ∃ xz, W3.heap.size = xz := ⟨_, rfl⟩
          have hb4 : Below W3.heap.size W3 W4 := by rw [← hW4]; exact (Below.refl _ _).alloc (Nat.le_refl _) _
          have HX := Lib.hid (by rw [← hW4, ← hxb]; exact alloc_new rfl : W4.heap[xb]? = some (.cells #[.int .i64 x.rank, .int .i64 x.left, .int .i64 x.right, .int .i64 x.a, .int .i64 x.b, .int .i64 x.id] 183 (0, 0)))
          have EW4 := Lib.hid hW4
          have Exb := Lib.hid hxb
          clear hW4 hxb
          have HLF := Lib.hid (left_calls base mb n P ids L v3 H3 W4 (q2.below hb4) hn (HI.out.srt.imp (fun h => Nat.ne_of_lt h)))
          have HQ := Lib.hid (joined_done q1)
          have HB4 := Lib.hid (show Below base wr W4 from q3.trans (hb4.mono (Nat.le_trans HBS.out q3.size)))
          clear q1 q2 q3 hb4 HST
          go_upto_region 13 with fail
          rw [EW4.out]
          go_wp2_with fail
          refine HLF.out.mono ?_
          rintro e W5 ⟨v5, rfl, hr, hb5⟩
          have HF5 := Lib.hid (show Joins w (joined (mg D) ((List.range' 0 n).map f)) (.returned (.tuple #[v5, .int .i64 0])) W5 from by
            have hB : Below w.heap.size w W4 := HBW.out.trans ((HBL.out.trans HB4.out).mono (by have := HBASE.out; have := HBW.out.size; omega))
            refine ⟨v5, rfl, ?_, chain hB hb5⟩
            rw [← HJ.out, HQ.out]
            exact Seg.rebase hr (fun b hb' => by have := (Seg.lt hr b hb').1; have := hB.size; omega))
          clear hr hb5 HLF
          go_wp2_with fail
          refine bodyPost_ret (v := .tuple #[v5, .int .i64 0]) (by simp [results, Tryd.results74, go_sem, *]) rfl (HF5.out)
        · unfold prV
          obtain ⟨W4, hW4⟩ : ∃ Xz, W3.alloc (.cells #[.int .i64 x.rank, .int .i64 x.left, .int .i64 x.right, .int .i64 x.a, .int .i64 x.b, .int .i64 x.id] 183) = Xz := ⟨_, rfl⟩
          obtain ⟨xb, hxb⟩ : ∃ xz, W3.heap.size = xz := ⟨_, rfl⟩
          have hb4 : Below W3.heap.size W3 W4 := by rw [← hW4]; exact (Below.refl _ _).alloc (Nat.le_refl _) _
          have HX := Lib.hid (by rw [← hW4, ← hxb]; exact alloc_new rfl : W4.heap[xb]? = some (.cells #[.int .i64 x.rank, .int .i64 x.left, .int .i64 x.right, .int .i64 x.a, .int .i64 x.b, .int .i64 x.id] 183 (0, 0)))
          have EW4 := Lib.hid hW4
          have Exb := Lib.hid hxb
          clear hW4 hxb
          have HK4 := Lib.hid (q3.below hb4)
          have HI4 := Lib.hid q4
          have HB4 := Lib.hid (show Below base wr W4 from q7.trans (hb4.mono (Nat.le_trans HBS.out q7.size)))
          have HJ4 := Lib.hid (show joined (mg D) (L'.map ids') = joined (mg D) ((List.range' 0 n).map f) from by rw [← q2, ← joined_step q1]; exact HJ.out)
          clear q1 q2 q3 q4 q7 hb4 HST
          go_upto_region 13 with fail
          rw [EW4.out]
          go_wp2_with fail
          go_roundg L'.length
          case measure => have := HG.out; omega
          case rel => exact ⟨ids', L', v', H', rfl, HK4.out, HI4.out, q5, HJ4.out, HBL.out.trans HB4.out⟩

set_option maxHeartbeats 2000000 in
set_option maxRecDepth 100000 in
theorem Merge_calls (D : Dt) (mb : Nat) (s : ByteArray) (w : World) (hM : Mod w mb D) (h0 : 0 < s.size) (hn : s.size ≤ 1048576) :
    Calls Tryd.prog 54 #[.pointer (some ⟨mb, 0, none⟩), .string s] w (Joins w (mrg D s.data.toList)) := by
  have HM := Lib.hid hM
  have HN := Lib.hid (bytes_calls s w h0 hn)
  have hl : ¬ ((1048576 : Int) < s.size) := by omega
  clear hM
  go_enter Tryd.func54, Tryd.ntmps54
  go_wp2_with fail
  refine HN.out.mono ?_
  rintro e W1 ⟨g, o, c, rfl, hi, hc, hg, hb⟩
  have HI := Lib.hid hi
  have HB := Lib.hid hb
  have HJ := Lib.hid (Joined_calls D mb g o s.size c (byF s) W1 (HM.out.below hb) hi h0 hn (fun k hk => by
    have h1 := (s.data.toList.getD k 0).toNat_lt
    unfold byF
    omega))
  clear hi hb HN hc hg
  go_wp2_with fail
  refine HJ.out.mono ?_
  rintro e W2 ⟨v, rfl, hr, hb2⟩
  have e1 : (List.range' 0 s.size).map (byF s) = byI s.data.toList := by
    refine List.ext_getElem (by simp [byI]) (fun k h1 h2 => ?_)
    have hk : k < s.data.toList.length := by simpa using h1
    simp only [List.getElem_map, List.getElem_range', Nat.zero_add, Nat.one_mul, byI]
    unfold byF
    rw [List.getD_eq_getElem?_getD, List.getElem?_eq_getElem hk]
    rfl
  have HQ := Lib.hid (show Joins w (mrg D s.data.toList) (.returned (.tuple #[v, .int .i64 0])) W2 from ⟨v, rfl, by
    unfold mrg
    rw [← e1]
    exact Seg.rebase hr (fun b hb' => by have := (Seg.lt hr b hb').1; have := HB.out.size; omega), chain HB.out hb2⟩)
  clear hr hb2 e1 HJ
  go_wp2_with fail
  refine bodyPost_ret (v := .tuple #[v, .int .i64 0]) (by simp [results, Tryd.results54, go_sem, *]) rfl (HQ.out)
end Go.Proofs.YtkjkgpdfhmoenaaDoor.BpeGo
