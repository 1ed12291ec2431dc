/-
  places: numbers.
-/
import Derived.Test.YtkjkgpdfhmoenaaDoorEncOver
namespace Go.Proofs.YtkjkgpdfhmoenaaDoor.PlGo
open Go Go.RowKit Go.Proofs.YtkjkgpdfhmoenaaDoor.Kit Go.Proofs.YtkjkgpdfhmoenaaDoor.Range Go.Proofs.YtkjkgpdfhmoenaaDoor.Round Go.Proofs.YtkjkgpdfhmoenaaDoor.Seg Go.Proofs.YtkjkgpdfhmoenaaDoor.Collect Go.Proofs.YtkjkgpdfhmoenaaDoor.It Go.Proofs.YtkjkgpdfhmoenaaDoor.ItGo Go.Proofs.YtkjkgpdfhmoenaaDoor.Dt Go.Proofs.YtkjkgpdfhmoenaaDoor.Mo Go.Proofs.YtkjkgpdfhmoenaaDoor.MoNew Go.Proofs.YtkjkgpdfhmoenaaDoor.Cu Go.Proofs.YtkjkgpdfhmoenaaDoor.CutAll Go.Proofs.YtkjkgpdfhmoenaaDoor.CutTokens Go.Proofs.YtkjkgpdfhmoenaaDoor.EncLaw Go.Proofs.YtkjkgpdfhmoenaaDoor.BpeGo Go.Proofs.YtkjkgpdfhmoenaaDoor.Chain
attribute [local irreducible] wpQuiet wpStill
attribute [local go_sem] Oper.semAt_some
set_option linter.unusedSimpArgs false

/-- Of each byte of the first items: the number of its item. -/
def numT (L : List It) : Nat → List Int
  | 0 => []
  | k + 1 => numT L k ++ List.replicate (L.getD k default).bytes (k : Int)
def nums (l : List UInt8) : List Int := numT (items 0 l) (items 0 l).length
theorem numT_len (l : List UInt8) : ∀ k, k ≤ (items 0 l).length → (numT (items 0 l) k).length = sum ((items 0 l).take k)
  | 0, _ => by simp [numT]
  | k + 1, h => by
    rw [sum_take_succ (by omega), ← numT_len l k (by omega)]
    simp [numT]
theorem nums_len (l : List UInt8) : (nums l).length = l.length := by
  unfold nums
  rw [numT_len l _ (Nat.le_refl _), List.take_length, sum_items]

/-- An append of numbers to a list of one's own in a cell. -/
theorem seg_more {A : World} {base bl : Nat} {v xv : Value} {xs news : List Int} (hc : A.heap[bl]? = some (.cells #[v] 33 (0, 0))) (h : NRow A base v xs) {base' : Nat} (hx : NRow A base' xv news) (hbz : base ≤ A.heap.size) (hlen : xs.length + news.length ≤ 10000000) (ty : TypeId) :
    ∃ v' A', (Builtin.append_ #[33, 33] ty #[v, xv]).run Tryd.prog A = .ok v' A' ∧ A'.heap[bl]? = some (.cells #[v] 33 (0, 0)) ∧ (A'.setCell ⟨bl, 0, none⟩ v').heap[bl]? = some (.cells #[v'] 33 (0, 0)) ∧ NRow (A'.setCell ⟨bl, 0, none⟩ v') base v' (xs ++ news) ∧
      Upd (fun b => b = bl ∨ v.ownBlock = some b) A (A'.setCell ⟨bl, 0, none⟩ v') ∧ (∀ b, v'.ownBlock = some b → v.ownBlock = some b ∨ A.heap.size ≤ b) ∧ A.heap.size ≤ A'.heap.size := by
  obtain ⟨i, hi, hz0, hz1, hz2⟩ := elemI.parts
  obtain ⟨v', A', hr, ha, _⟩ := run_append_seg (P := Tryd.prog) A base 33 ty 3 i _ 1 8 elemI.t hi hz0 hz1 hz2 elemI.z elemI.p v xs.length (vals xs) h xv news.length (vals news) (by rw [vals_len]; omega) (Seg.src hx) (by intro u hu; unfold vals at hu; obtain ⟨z, _, rfl⟩ := List.mem_map.1 hu; rfl) (by unfold maxLen; omega) (by omega) hbz
  have hown' : ∀ b, v'.ownBlock = some b → v.ownBlock = some b ∨ A.heap.size ≤ b := by
    intro b hb
    rcases ha.blk with h2 | h2
    · exact .inl (by rw [← h2]; exact hb)
    · exact .inr (h2 b hb)
  have hnb : ¬ v.ownBlock = some bl := fun hh => by
    have := no_own h hc (by decide)
    exact this hh
  have hc' := Upd.mem ha.u hc hnb
  have u2 : Upd (fun b => b = bl) A' (A'.setCell ⟨bl, 0, none⟩ v') := Upd.setCell (S := fun b => b = bl) (p := ⟨bl, 0, none⟩) (Upd.refl _ _) (fun _ => rfl) _
  have hlt := lt_of_heap hc
  refine ⟨v', A', hr, hc', ?_, ?_, (ha.u.mono fun _ _ h => .inr h).trans (u2.mono fun _ _ h => .inl h), hown', ha.u.size⟩
  · rw [heap_set hc' 0 v']
    rfl
  · have := ha.seg.upd u2 (fun b hb he => by
      subst he
      rcases hown' _ hb with h3 | h3
      · exact hnb h3
      · omega)
    unfold NRow
    rw [vals_app, List.length_append]
    exact this
/-- One number, boxed for an append. -/
theorem one_row {A : World} {bb : Nat} {z : Int} (h : A.heap[bb]? = some (.cells #[.int .i64 z] 3 (0, 0))) : NRow A bb (.slice (some ⟨bb, 0, none⟩) 1 1) [z] :=
  ⟨rfl, .inr ⟨bb, 0, 1, _, rfl, Nat.le_refl _, h, Nat.le_refl _, by unfold maxLen; omega, by simp, rfl⟩⟩

/-- The two cells and the list behind k items and j bytes of the next one. -/
structure Nm (L : List It) (w : World) (b3 b4 k j : Nat) (v : Value) (A : World) : Prop where
  c3 : A.heap[b3]? = some (.cells #[v] 33 (0, 0))
  c4 : A.heap[b4]? = some (.cells #[.int .i64 k] 3 (0, 0))
  r : NRow A w.heap.size v (numT L k ++ List.replicate j (k : Int))
  b : Below w.heap.size w A
  n4 : ¬ v.ownBlock = some b4
theorem Nm.keep {L : List It} {w : World} {b3 b4 k j : Nat} {v : Value} {A B : World} {X : Nat → Prop} (h : Nm L w b3 b4 k j v A) (hu : Upd X A B) (h3 : ¬ X b3) (h4 : ¬ X b4) (hv : ∀ b, v.ownBlock = some b → ¬ X b) (hw : ∀ b, b < w.heap.size → ¬ X b) : Nm L w b3 b4 k j v B :=
  ⟨Upd.mem hu h.c3 h3, Upd.mem hu h.c4 h4, Seg.upd h.r hu hv, h.b.trans (hu.below h.b.size hw), h.n4⟩

set_option maxHeartbeats 2000000 in
set_option maxRecDepth 100000 in
theorem numbers_calls (s : ByteArray) (w : World) (hT : Tabs w) (hl : s.size ≤ 1048576) :
    Calls Tryd.prog 56 #[.string s] w fun e w' => ∃ v, e = .returned v ∧ NRow w' w.heap.size v (nums s.data.toList) ∧ Below w.heap.size w w' := by
  have HT := Lib.hid hT
  have hsz := size_list s
  have hil := items_len s.data.toList 0
  rw [hsz] at hil
  have hmk : ∀ w, (Instr.makeSlice 33 (.int .i64 0) (.int .i64 s.size)).run Tryd.prog w = .ok (.slice (some ⟨w.heap.size, 0, none⟩) 0 s.size) (w.alloc (.cells (madeCells #[.int .i64 0] s.size) 3)) := fun w => by
    obtain ⟨i, hi, hz, hs, hb⟩ := elemI.parts
    have hr := run_make (P := Tryd.prog) w 33 3 i _ Tryd.underlying33 hi hz .i64 .i64 (0 : Int) (s.size : Int) (by omega) (by omega) (by rw [hb]; omega) (by omega)
    rw [hs, Nat.mul_one, Int.toNat_natCast] at hr
    exact hr
  clear hT
  obtain ⟨W1, hW1⟩ : ∃ Xz, w.alloc (.cells (madeCells #[.int .i64 0] s.size) 3) = Xz := ⟨_, rfl⟩
  obtain ⟨nb, hnb⟩ : ∃ xz, w.heap.size = xz := ⟨_, rfl⟩
  have hb1 : Below w.heap.size w W1 := by rw [← hW1]; exact (Below.refl _ _).alloc (Nat.le_refl _) _
  have HN := Lib.hid (by rw [← hW1, ← hnb]; exact alloc_new rfl : W1.heap[nb]? = some (.cells (madeCells #[.int .i64 0] s.size) 3 (0, 0)))
  have EW1 := Lib.hid hW1
  have Enb := Lib.hid hnb
  clear hW1 hnb
  obtain ⟨W2, hW2⟩ : ∃ Xz, W1.alloc (.cells #[.slice (some ⟨nb, 0, none⟩) 0 s.size] 33) = Xz := ⟨_, rfl⟩
  obtain ⟨b3, hb3⟩ : ∃ xz, W1.heap.size = xz := ⟨_, rfl⟩
  have hb2 : Below W1.heap.size W1 W2 := by rw [← hW2]; exact (Below.refl _ _).alloc (Nat.le_refl _) _
  have HB3 := Lib.hid (by rw [← hW2, ← hb3]; exact alloc_new rfl : W2.heap[b3]? = some (.cells #[.slice (some ⟨nb, 0, none⟩) 0 s.size] 33 (0, 0)))
  have EW2 := Lib.hid hW2
  have Eb3 := Lib.hid hb3
  clear hW2 hb3
  have n3 := Lib.hid (show nb + 1 = b3 from by rw [← Eb3.out, ← EW1.out, ← Enb.out]; simp)
  have l1 : nb < b3 := by have := lt_of_heap HN.out; have := Eb3.out; omega
  have l0 : w.heap.size ≤ nb := by have := Enb.out; omega
  have HN := Lib.hid ((hb2.block _ (lt_of_heap HN.out)).trans HN.out)
  obtain ⟨W3, hW3⟩ : ∃ Xz, W2.alloc (.cells #[.int .i64 0] 3) = Xz := ⟨_, rfl⟩
  obtain ⟨b4, hb4⟩ : ∃ xz, W2.heap.size = xz := ⟨_, rfl⟩
  have hb3 : Below W2.heap.size W2 W3 := by rw [← hW3]; exact (Below.refl _ _).alloc (Nat.le_refl _) _
  have HB4 := Lib.hid (by rw [← hW3, ← hb4]; exact alloc_new rfl : W3.heap[b4]? = some (.cells #[.int .i64 0] 3 (0, 0)))
  have EW3 := Lib.hid hW3
  have Eb4 := Lib.hid hb4
  clear hW3 hb4
  have l3 : b3 < b4 := by have := lt_of_heap HB3.out; have := Eb4.out; omega
  have HN := Lib.hid ((hb3.block _ (lt_of_heap HN.out)).trans HN.out)
  have HB3 := Lib.hid ((hb3.block _ (lt_of_heap HB3.out)).trans HB3.out)
  obtain ⟨W4, hW4⟩ : ∃ Xz, W3.alloc (.cells #[.string s] 9) = Xz := ⟨_, rfl⟩
  obtain ⟨bi, hbi⟩ : ∃ xz, W3.heap.size = xz := ⟨_, rfl⟩
  have hb4 : Below W3.heap.size W3 W4 := by rw [← hW4]; exact (Below.refl _ _).alloc (Nat.le_refl _) _
  have HI := Lib.hid (by rw [← hW4, ← hbi]; exact alloc_new rfl : W4.heap[bi]? = some (.cells #[.string s] 9 (0, 0)))
  have EW4 := Lib.hid hW4
  have Ebi := Lib.hid hbi
  clear hW4 hbi
  have l4 : b4 < bi := by have := lt_of_heap HB4.out; have := Ebi.out; omega
  have HN := Lib.hid ((hb4.block _ (lt_of_heap HN.out)).trans HN.out)
  have HB3 := Lib.hid ((hb4.block _ (lt_of_heap HB3.out)).trans HB3.out)
  have HB4 := Lib.hid ((hb4.block _ (lt_of_heap HB4.out)).trans HB4.out)
  have HB := Lib.hid (chain (chain (chain hb1 hb2) hb3) hb4 : Below w.heap.size w W4)
  have o5 : bi < W4.heap.size := lt_of_heap HI.out
  clear hb1 hb2 hb3 hb4
  refine calls_of_wp_marks Tryd.func56 rfl ?_
  simp only [Tryd.ntmps56, List.size_toArray, List.length_cons, List.length_nil, Nat.reduceAdd, Nat.reduceSub, Array.replicate_succ, Array.replicate_zero, List.push_toArray, List.append_toArray, List.nil_append, List.cons_append]
  go_upto_region 2 with fail
  rw [EW1.out, Enb.out, n3.out, EW2.out]
  clear hmk
  go_upto_region 3 with fail
  rw [EW3.out, Eb4.out]
  go_wp2_with fail
  refine (Items_calls s W3).mono ?_
  rintro e W ⟨rfl, rfl⟩
  rw [EW4.out, Ebi.out]
  go_wp2_with fail
  refine range_outer (w0 := W4) (N := (items 0 s.data.toList).length) (Cap := fun b => b = bi ∨ b = Shelf.lays197_ren.g 3 ∨ b = Shelf.lays197_ren.g 4) (gf := 57) (lb := #[.pointer (some ⟨bi, 0, none⟩)]) (encs := fun k => #[encI ((items 0 s.data.toList).getD k default)]) rfl (Go.Proofs.enters_of Tryd.func57 (by kernel_rfl) rfl)
    (items_iter W4 bi s HI.out (HT.out.below HB.out) (by omega)) (Below.refl _ _) (fun _ => rfl) ?cap
    (fun k S W => ∃ v, (∀ b, S b ↔ (b = b3 ∨ b = b4) ∨ v.ownBlock = some b) ∧ Nm (items 0 s.data.toList) w b3 b4 k 0 v W)
    (fun c k S W => False)
    ?ki ?kx (fun b => (b = b3 ∨ b = b4) ∨ b = nb) ⟨.slice (some ⟨nb, 0, none⟩) 0 s.size, fun b => by simp [Value.ownBlock, eq_comm], HB3.out, HB4.out, ⟨rfl, .inr ⟨nb, 0, s.size, _, rfl, l0, HN.out, Nat.zero_le _, by unfold maxLen; omega, by rw [size_madeCells]; omega, by simp [numT, vals]⟩⟩, HB.out, by simp [Value.ownBlock]; omega⟩ ?s0 ?round ?done ?stop
  case cap =>
    have h3 := Tabs.lt3 (HT.out.below HB.out)
    rintro b (rfl | rfl | rfl)
    · exact o5
    · exact h3.1
    · exact h3.2
  case ki =>
    rintro k S A B ⟨v, hS, hst⟩ hu
    have hww := HB.out.size
    exact ⟨v, hS, hst.keep hu (fun h => h.2 ((hS _).2 (.inl (.inl rfl)))) (fun h => h.2 ((hS _).2 (.inl (.inr rfl)))) (fun b hb h => h.2 ((hS _).2 (.inr hb))) (fun b hb h => by have := h.1; omega)⟩
  case kx =>
    rintro c k S A B h hu
    exact h
  case s0 =>
    have h3 := Tabs.lt3 HT.out
    rintro b h
    exact ⟨by omega, by omega⟩
  case round =>
    rintro l k S A hk ⟨v, hS, hst⟩ j1 j2 j3 j4 j5 j6
    obtain ⟨x, hx⟩ : ∃ x, (items 0 s.data.toList).getD k default = x := ⟨_, rfl⟩
    have hpos : 0 < x.bytes := items_pos (a := 0) (l := s.data.toList) (by rw [← hx]; simp only [List.getD, List.getElem?_eq_getElem hk, Option.getD_some]; exact List.getElem_mem hk)
    have hsum := sum_take_succ (a := 0) (l := s.data.toList) (c := k) hk
    rw [hx] at hsum
    have hsl := sum_take_le (k + 1) 0 s.data.toList
    have hnl := numT_len s.data.toList k (by omega)
    rw [hx]
    unfold encI
    obtain ⟨A1, hA1⟩ : ∃ Xz, A.alloc (.cells #[.int .i64 x.from', .int .i64 x.bytes, .int .i32 x.rune, .bool x.bad] 60) = Xz := ⟨_, rfl⟩
    obtain ⟨bt, hbt⟩ : ∃ xz, A.heap.size = xz := ⟨_, rfl⟩
    have hbA : Below A.heap.size A A1 := by rw [← hA1]; exact (Below.refl _ _).alloc (Nat.le_refl _) _
    have HV := Lib.hid (by rw [← hA1, ← hbt]; exact alloc_new rfl : A1.heap[bt]? = some (.cells #[.int .i64 x.from', .int .i64 x.bytes, .int .i32 x.rune, .bool x.bad] 60 (0, 0)))
    have EA1 := Lib.hid hA1
    have Ebt := Lib.hid hbt
    clear hA1 hbt
    have HX0 := Lib.hid hx
    have H6 := Lib.hid j6
    have HSI := Lib.hid hS
    have e1 : IntKind.i64.wrap ((k : Int) + 1) = ((k + 1 : Nat) : Int) := by rw [i64w _ (by omega) (by omega)]; omega
    clear hx hst j5 j6 hS
    gi_wp2
    rw [EA1.out, Ebt.out]
    rw [Ebt.out] at hbA
    refine ⟨hbA, fun A2 hu hz hI2 hr2 => ?_⟩
    obtain ⟨v2, hS2, hst2⟩ := hI2
    have HS2 := Lib.hid hS2
    have HST := Lib.hid hst2
    have HVV := Lib.hid (Upd.mem hu HV.out (by have := Ebt.out; omega))
    have oA : A.heap.size = bt := Ebt.out
    have obt := lt_of_heap HVV.out
    clear hS2 hst2 hr2 hu hz hbA
    have v1 := cell_at HVV.out 1
    have vz := lt_of_heap HVV.out
    simp only [List.getElem?_toArray, List.getElem?_cons_zero, List.getElem?_cons_succ] at v1
    gi_wp2_with fail
    clear v1 vz
    gi_loopw [14] (fun i wr => ∃ (j : Nat) (v : Value), i = .int .i64 j ∧ j ≤ x.bytes ∧ Nm (items 0 s.data.toList) w b3 b4 k j v wr ∧ Upd (fun b => S b ∨ A.heap.size ≤ b) A2 wr ∧ ∀ b, v.ownBlock = some b → S b ∨ A.heap.size ≤ b) (fun i _ => x.bytes - (intOf i).toNat)
    case atStart => exact ⟨0, v2, rfl, Nat.zero_le _, HST.out, Upd.refl _ _, fun b hb => .inl ((HS2.out b).2 (.inr hb))⟩
    case round =>
      obtain ⟨j, v3, rfl, hj, hnm, hup, hvo⟩ := hrel
      have HNM := Lib.hid hnm
      have HUP := Lib.hid hup
      have HVO := Lib.hid hvo
      clear hnm hup hvo
      by_cases hlt : j < x.bytes
      · have hlt' : (j : Int) < x.bytes := by omega
        obtain ⟨B1, hB1⟩ : ∃ Xz, wr.alloc (.cells #[.int .i64 k] 3) = Xz := ⟨_, rfl⟩
        obtain ⟨bq, hbq⟩ : ∃ xz, wr.heap.size = xz := ⟨_, rfl⟩
        have hbb : Below wr.heap.size wr B1 := by rw [← hB1]; exact (Below.refl _ _).alloc (Nat.le_refl _) _
        have HBB := Lib.hid (by rw [← hB1, ← hbq]; exact alloc_new rfl : B1.heap[bq]? = some (.cells #[.int .i64 k] 3 (0, 0)))
        have EB1 := Lib.hid hB1
        have Ebq := Lib.hid hbq
        clear hB1 hbq
        have hnm1 := HNM.out.keep (X := fun _ => False) (Upd.of_below hbb) id id (fun _ _ => id) (fun _ _ => id)
        have hrl : (numT (items 0 s.data.toList) k ++ List.replicate j (k : Int)).length + 1 ≤ 10000000 := by
          rw [List.length_append, List.length_replicate, hnl]; omega
        obtain ⟨v4, B2, hrun, hcl, hcell, hrow, hu4, hown, hzz⟩ := seg_more hnm1.c3 hnm1.r (one_row HBB.out) (by have := hnm1.b.size; omega) hrl 33
        rw [List.append_assoc, show List.replicate j (k : Int) ++ [(k : Int)] = List.replicate (j + 1) (k : Int) from by rw [List.replicate_succ']] at hrow
        obtain ⟨av, cv, hv4, -⟩ := Seg.shape hrow
        obtain ⟨n4, hn4⟩ : ∃ z, (numT (items 0 s.data.toList) k ++ List.replicate (j + 1) (k : Int)).length = z := ⟨_, rfl⟩
        rw [hn4] at hv4
        subst hv4
        have hvlt := Seg.lt hnm1.r
        have hv4n := hnm1.n4
        have HNM4 := Lib.hid (show Nm (items 0 s.data.toList) w b3 b4 k (j + 1) (.slice av n4 cv) _ from
          ⟨hcell, Upd.mem hu4 hnm1.c4 (by rintro (h | h); exact absurd h (by omega); exact hv4n h), hrow, hnm1.b.trans (hu4.below hnm1.b.size (fun b hb h => by
            rcases h with h | h
            · omega
            · have := (hvlt b h).1; omega)), fun hh => by
            rcases hown b4 hh with h | h
            · exact hv4n h
            · have := lt_of_heap hnm1.c4; omega⟩)
        have HUP4 := Lib.hid (show Upd (fun b => S b ∨ A.heap.size ≤ b) A2 _ from (HUP.out.trans (Upd.of_below hbb)).trans (hu4.mono (fun b _ h => by
            rcases h with h | h
            · exact .inl ((HSI.out b).2 (.inl (.inl h)))
            · exact HVO.out b h)))
        have HVO4 := Lib.hid (show ∀ b, (Value.slice av n4 cv).ownBlock = some b → S b ∨ A.heap.size ≤ b from fun b hb => by
          rcases hown b hb with h | h
          · exact HVO.out b h
          · have := HUP.out.size; have := hbb.size; exact .inr (by omega))
        have HRUN := Lib.hid hrun
        have HCL := Lib.hid hcl
        have HC3 := Lib.hid HNM.out.c3
        have HC4 := Lib.hid HNM.out.c4
        rw [← EB1.out, ← Ebq.out] at HRUN
        have e2 : IntKind.i64.wrap ((j : Int) + 1) = ((j + 1 : Nat) : Int) := by rw [i64w _ (by omega) (by omega)]; omega
        clear hbb hnm1 hrl hrun hcl hcell hrow hu4 hown hn4 hvlt hv4n
        have c0 := cell_at HC3.out 0
        have cz := lt_of_heap HC3.out
        simp only [List.getElem?_toArray, List.getElem?_cons_zero] at c0
        have d0 := cell_at HC4.out 0
        have dz := lt_of_heap HC4.out
        simp only [List.getElem?_toArray, List.getElem?_cons_zero] at d0
        have q0 := cell_at HCL.out 0
        have qf := free_all HCL.out
        have qz := lt_of_heap HCL.out
        simp only [List.getElem?_toArray, List.getElem?_cons_zero] at q0
        gi_wp2_with (gi_at_builtin; refine append_run_in rfl rfl rfl rfl HRUN.out ?_)
        go_roundw
        case rel => exact ⟨j + 1, _, rfl, hlt, HNM4.out, HUP4.out, HVO4.out⟩
        case measure => simp [intOf]; omega
      · have hjx : j = x.bytes := by omega
        subst hjx
        have hlt' : ¬ ((x.bytes : Int) < x.bytes) := by omega
        obtain ⟨B2, hB2⟩ : ∃ z, wr.setCell ⟨b4, 0, none⟩ (.int .i64 ((k : Int) + 1)) = z := ⟨_, rfl⟩
        have hu2 : Upd (fun b => b = b4) wr B2 := by rw [← hB2]; exact Upd.setCell (S := fun b => b = b4) (p := ⟨b4, 0, none⟩) (Upd.refl _ _) (fun _ => rfl) _
        have hv4n := HNM.out.n4
        have HNM4 := Lib.hid (show Nm (items 0 s.data.toList) w b3 b4 (k + 1) 0 v3 B2 from
          ⟨Upd.mem hu2 HNM.out.c3 (by omega), by rw [← hB2, heap_set HNM.out.c4 0 _]; simp, by
            have := Seg.upd HNM.out.r hu2 (fun b hb e => hv4n (by rw [← e]; exact hb))
            unfold NRow
            have e : numT (items 0 s.data.toList) (k + 1) ++ List.replicate 0 (((k + 1 : Nat) : Int)) = numT (items 0 s.data.toList) k ++ List.replicate x.bytes (k : Int) := by
              show (numT (items 0 s.data.toList) k ++ List.replicate ((items 0 s.data.toList).getD k default).bytes (k : Int)) ++ [] = _
              rw [HX0.out, List.append_nil]
            rw [e]
            exact this, HNM.out.b.trans (hu2.below HNM.out.b.size (fun b hb e => by have := HB.out.size; omega)), hv4n⟩)
        have HUP4 := Lib.hid (show Upd (fun b => S b ∨ A.heap.size ≤ b) A2 B2 from HUP.out.trans (hu2.mono (fun b _ h => .inl ((HSI.out b).2 (.inl (.inr h))))))
        have HB2 := Lib.hid hB2
        have HC4 := Lib.hid HNM.out.c4
        clear hB2 hu2 hv4n
        have d0 := cell_at HC4.out 0
        have df := free_all HC4.out
        have dz := lt_of_heap HC4.out
        simp only [List.getElem?_toArray, List.getElem?_cons_zero] at d0
        gi_wp2_with fail
        rw [HB2.out]
        refine ⟨_, ⟨v3, fun b => Iff.rfl, HNM4.out⟩, HUP4.out, fun b hb => ⟨?_, ?_⟩⟩
        · rcases hb with hb | hb
          · exact .inl ((HSI.out b).2 (.inl hb))
          · exact HVO.out b hb
        · rcases hb with (hb | hb) | hb
          · rw [hb]; exact lt_of_heap HNM4.out.c3
          · rw [hb]; exact lt_of_heap HNM4.out.c4
          · exact (Seg.lt HNM4.out.r b hb).2
  case done =>
    rintro S B ⟨v, hS, hst⟩ hD
    have HST := Lib.hid hst
    have HDD := Lib.hid hD
    have HC3 := Lib.hid hst.c3
    have hr := hst.r
    rw [List.replicate_zero, List.append_nil] at hr
    have HR := Lib.hid hr
    clear hst hD hS hr
    have c0 := cell_at HC3.out 0
    have cz := lt_of_heap HC3.out
    simp only [List.getElem?_toArray, List.getElem?_cons_zero] at c0
    go_wp2_with fail
    refine leaves_marks (v := v) [W4.heap.size] _ (fun d hd => ?_) (by simp) (fun w' hu => ⟨?_, v, rfl, ?_, ?_⟩)
    · rw [List.mem_singleton] at hd
      rw [hd]
      exact HDD.out
    · simp [results, Tryd.results56, go_sem]
    · refine Seg.upd HR.out hu (fun b hb hh => ?_)
      rw [List.mem_singleton] at hh
      rcases Seg.at' HR.out with ⟨h9, _⟩ | ⟨g, o, cap, cur, h9, _, hg, _⟩
      · rw [h9] at hb; cases hb
      · rw [h9] at hb
        simp only [Value.ownBlock, Option.some.injEq] at hb
        rw [hb, hh, HDD.out] at hg
        cases hg
    · exact HST.out.b.trans (hu.below HST.out.b.size (fun b hb h => by
        rw [List.mem_singleton] at h
        have := HB.out.size
        omega))
  case stop =>
    rintro c k S B hk h hD
    exact h.elim
end Go.Proofs.YtkjkgpdfhmoenaaDoor.PlGo
