/-
  The walk of the law StepKept.
-/
import Derived.Test.YtendkmldecoogaaDoorStepCt
import Derived.Test.YtendkmldecoogaaDoorBookATok
namespace Go.Proofs.YtendkmldecoogaaDoor.stepKept
open Go Go.RowKit Go.Proofs.YtendkmldecoogaaDoor Go.Proofs.YtendkmldecoogaaDoor.Kit Go.Proofs.YtendkmldecoogaaDoor.Round Go.Proofs.YtendkmldecoogaaDoor.Seg Go.Proofs.YtendkmldecoogaaDoor.Collect Go.Proofs.YtendkmldecoogaaDoor.Utf Go.Proofs.YtendkmldecoogaaDoor.It Go.Proofs.YtendkmldecoogaaDoor.ItGo Go.Proofs.YtendkmldecoogaaDoor.Dt Go.Proofs.YtendkmldecoogaaDoor.Mo Go.Proofs.YtendkmldecoogaaDoor.MoNew Go.Proofs.YtendkmldecoogaaDoor.Keep Go.Proofs.YtendkmldecoogaaDoor.Cu Go.Proofs.YtendkmldecoogaaDoor.CutAll Go.Proofs.YtendkmldecoogaaDoor.CutTokens Go.Proofs.YtendkmldecoogaaDoor.CutAs Go.Proofs.YtendkmldecoogaaDoor.BookTok Go.Proofs.YtendkmldecoogaaDoor.StepLaw Go.Proofs.YtendkmldecoogaaDoor.StepRun Go.Proofs.YtendkmldecoogaaDoor.StepCt Go.Proofs.YtendkmldecoogaaDoor.StepMore Go.Proofs.YtendkmldecoogaaDoor.Law13
attribute [local irreducible] wpQuiet wpStill
set_option linter.unusedSimpArgs false

set_option maxRecDepth 100000 in
theorem mark_calls (i j : Nat) (w : World) (hi : i ≤ 10000000) (hj : j ≤ maxLen) : Calls Tryd.prog 55 #[.int .i64 i, .int .i64 j] w fun e w' => e = .returned (.agg #[.int .i64 (-100 - (i : Int)), .int .i64 (-(j : Int)), .int .i64 0]) ∧ Below w.heap.size w w' := by
  have hj2 : j ≤ 9223372036854775807 := by unfold maxLen at hj; omega
  have w1 : IntKind.i64.wrap (-100 - (i : Int)) = -100 - (i : Int) := i64w _ (by omega) (by omega)
  have w2 : IntKind.i64.wrap (-(j : Int)) = -(j : Int) := i64w _ (by omega) (by omega)
  obtain ⟨W1, hW1⟩ : ∃ Xz, w.alloc (.cells #[.int .i64 (-100 - (i : Int)), .int .i64 (-(j : Int)), .int .i64 0] 49) = Xz := ⟨_, rfl⟩
  obtain ⟨rb, hrb⟩ : ∃ xz, w.heap.size = xz := ⟨_, rfl⟩
  have hb1 : Below w.heap.size w W1 := by rw [← hW1]; exact (Below.refl _ _).alloc (Nat.le_refl _) _
  have HR := Lib.hid (by rw [← hW1, ← hrb]; exact alloc_new rfl : W1.heap[rb]? = some (.cells #[.int .i64 (-100 - (i : Int)), .int .i64 (-(j : Int)), .int .i64 0] 49 (0, 0)))
  have EW1 := Lib.hid hW1
  have Erb := Lib.hid hrb
  clear hW1 hrb
  have HB := Lib.hid hb1
  clear hb1
  have r0 := cell_at HR.out 0
  have r1 := cell_at HR.out 1
  have r2 := cell_at HR.out 2
  have rz := lt_of_heap HR.out
  simp only [List.getElem?_toArray, List.getElem?_cons_zero, List.getElem?_cons_succ] at r0 r1 r2
  go_enter Tryd.func55, Tryd.ntmps55
  go_wp2_with fail
  rw [EW1.out, Erb.out]
  refine bodyPost_ret (v := .agg #[.int .i64 (-100 - (i : Int)), .int .i64 (-(j : Int)), .int .i64 0]) (by simp [results, Tryd.results55, go_sem, *]) rfl (⟨rfl, by have := HB.out; rw [Erb.out] at this; exact this⟩)

theorem flat_shaped (T : List Tk) : Shaped T.length (flat T) := ⟨fun i hi => by
  obtain ⟨f1, f2, f3⟩ := flat_at hi
  exact ⟨_, _, _, f1, f2, f3⟩, fun u hu => by
    unfold flat at hu
    obtain ⟨t, _, h⟩ := List.mem_flatMap.1 hu
    simp at h
    rcases h with rfl | rfl | rfl <;> rfl⟩

theorem fresh {W W' : World} {base bb n : Nat} {L : List Rec} {lv wv v : Value} {held : Int} {xs : List Value} (h : Bk W base bb L lv wv held) (hv : Seg W' W.heap.size 49 3 v n xs) : ∀ r, r ∈ L → ∀ b, r.v.ownBlock = some b → v.ownBlock ≠ some b := fun r hr b hb hvb => by
  have h1 := ((h.vs r hr).1.lt b hb).2
  have h2 := (hv.lt b hvb).1
  omega


set_option maxHeartbeats 4000000 in
set_option maxRecDepth 100000 in
theorem walk (D : Dt) (Q : Pl) (s : ByteArray) (w : World) (hd : At w D Q) (_hs : s.size ≤ 140737488355328) (hT : Tabs w) :
    Calls Tryd.prog 12 #[.agg #[.slice Q.a0 D.nw Q.c0, .slice Q.a1 D.nm Q.c1, .slice Q.a2 D.n0 Q.c2, .slice Q.a3 D.n1 Q.c3, .slice Q.a4 D.n2 Q.c4], .string s] w fun e w' => e = .returned (.bool true) ∧ Below w.heap.size w w' := by
  have HA := Lib.hid hd
  have HT := Lib.hid hT
  clear hd hT
  obtain ⟨W1, hW1⟩ : ∃ Xz, w.alloc (.cells #[.slice Q.a0 D.nw Q.c0, .slice Q.a1 D.nm Q.c1, .slice Q.a2 D.n0 Q.c2, .slice Q.a3 D.n1 Q.c3, .slice Q.a4 D.n2 Q.c4] 33) = Xz := ⟨_, rfl⟩
  obtain ⟨bd, hbd⟩ : ∃ xz, w.heap.size = xz := ⟨_, rfl⟩
  have hb1 : Below w.heap.size w W1 := by rw [← hW1]; exact (Below.refl _ _).alloc (Nat.le_refl _) _
  have HX := Lib.hid (by rw [← hW1, ← hbd]; exact alloc_new rfl : W1.heap[bd]? = some (.cells #[.slice Q.a0 D.nw Q.c0, .slice Q.a1 D.nm Q.c1, .slice Q.a2 D.n0 Q.c2, .slice Q.a3 D.n1 Q.c3, .slice Q.a4 D.n2 Q.c4] 33 (0, 0)))
  have EW1 := Lib.hid hW1
  have Ebd := Lib.hid hbd
  clear hW1 hbd
  have HB := Lib.hid hb1
  have HA := Lib.hid (HA.out.below hb1)
  have HO := Lib.hid (Of_calls D Q W1 HA.out)
  clear hb1
  have x0 := cell_at HX.out 0
  have x1 := cell_at HX.out 1
  have x2 := cell_at HX.out 2
  have x3 := cell_at HX.out 3
  have x4 := cell_at HX.out 4
  have xz := lt_of_heap HX.out
  simp only [List.getElem?_toArray, List.getElem?_cons_zero, List.getElem?_cons_succ] at x0 x1 x2 x3 x4
  obtain ⟨fs, hfs⟩ : ∃ z, few s 200 = z := ⟨_, rfl⟩
  have hf1 := few_size s 200
  have HF := Lib.hid (fun w => Law13.few_calls s 200 w (by decide))
  rw [hfs] at HF hf1
  have hfz : fs.size ≤ 200 := hf1.1
  have hls := size_list fs
  clear hfs hf1
  go_enter Tryd.func12, Tryd.ntmps12
  go_upto_region 1 with fail
  rw [EW1.out, Ebd.out]
  go_wp2_with fail
  refine HO.out.mono ?_
  clear x0 x1 x2 x3 x4 xz
  rintro e W2 (⟨rfl, hb2⟩ | ⟨mb, rfl, hM, _, hb2, _⟩)
  · have HB := Lib.hid (chain HB.out hb2)
    clear hb2
    go_wp2_with fail
    refine (Law13.known_calls W2 (HT.out.below HB.out)).mono ?_
    rintro e W3 ⟨rfl, hb3⟩
    have HB := Lib.hid (chain HB.out hb3)
    clear hb3
    go_wp2_with fail
    go_ret
    exact ⟨rfl, HB.out⟩
  have HM := Lib.hid hM
  have HG := Lib.hid (Good.of_mod hM)
  have HB := Lib.hid (chain HB.out hb2)
  clear hM hb2
  obtain ⟨most, hmost⟩ : ∃ k : Nat, k = 50 := ⟨_, rfl⟩
  go_wp2_with fail
  refine (HF.out W2).mono ?_
  rintro e w' ⟨rfl, rfl⟩
  go_wp2_with fail
  have hnew := StepGo.New_calls mb most W2 HM.out (HT.out.below HB.out) ⟨by omega, by omega⟩
  rw [show ((most : Nat) : Int) = 50 by omega] at hnew
  refine hnew.mono ?_
  rintro e W3 ⟨cb, tb, sb, rfl, hc3, hb3⟩
  have HC := Lib.hid (Ct.new HM.out hc3)
  have HB3 := Lib.hid hb3
  have hz3 : W2.heap.size ≤ W3.heap.size := hb3.size
  clear hc3 hb3 hnew hmost
  obtain ⟨base, hbase⟩ : ∃ z, W3.heap.size = z := ⟨_, rfl⟩
  obtain ⟨W4, hW4⟩ : ∃ Xz, W3.alloc (.cells #[.slice none 0 0, .slice none 0 0, .int .i64 0, .bool false] 64) = Xz := ⟨_, rfl⟩
  obtain ⟨bb, hbb⟩ : ∃ xz, W3.heap.size = xz := ⟨_, rfl⟩
  have hb4 : Below W3.heap.size W3 W4 := by rw [← hW4]; exact (Below.refl _ _).alloc (Nat.le_refl _) _
  have HBK := Lib.hid (by rw [← hW4, ← hbb]; exact alloc_new rfl : W4.heap[bb]? = some (.cells #[.slice none 0 0, .slice none 0 0, .int .i64 0, .bool false] 64 (0, 0)))
  have EW4 := Lib.hid hW4
  have Ebb := Lib.hid hbb
  clear hW4 hbb
  have HK := Lib.hid (show Bk W4 base bb [] (.slice none 0 0) (.slice none 0 0) 0 from ⟨by rw [← hbase, ← Ebb.out]; exact Nat.le_refl _, HBK.out, Seg.nil _ _ _ _, Seg.nil _ _ _ _, fun b h => (by simp [Value.ownBlock] at h), fun r hr => (by cases hr), List.Pairwise.nil⟩)
  have HC4 := Lib.hid (HC.out.below hb4)
  have HB4 := Lib.hid (chain HB3.out hb4)
  have hz4 : base ≤ W4.heap.size := by rw [← hbase]; exact hb4.size
  have hcb : cb < base ∧ sb < base := by rw [← hbase]; exact ⟨HC.out.cl, HC.out.z⟩
  have hw2 : W2.heap.size ≤ base := by rw [← hbase]; exact hz3
  clear hb4 hbase HBK HC HB3
  go_wp2_with fail
  rw [EW4.out, Ebb.out]
  go_loopg [11] fs.size (fun g s11 wr => ∃ (i : Nat) (hv : Value) (L : List Rec) (lv wv : Value) (held : Int), i ≤ fs.size ∧ g = fs.size - i ∧ s11 = .int .i64 i ∧ Ct W2 D most cb tb sb wr hv (fs.data.toList.take i) ∧ Bk wr base bb L lv wv held ∧ L.length ≤ i ∧ Below W2.heap.size W2 wr ∧ base ≤ wr.heap.size)
  case atStart => exact ⟨0, _, [], _, _, _, Nat.zero_le _, by omega, rfl, by simpa using HC4.out, HK.out, Nat.le_refl _, HB4.out, hz4⟩
  case round =>
    obtain ⟨i, hv, L, lv, wv, held, hi, hg, rfl, hct, hk, hl, hb, hbz⟩ := hrel
    have HGG := Lib.hid hg
    have HCT := Lib.hid hct
    have HK := Lib.hid hk
    have HBW := Lib.hid hb
    clear hg hct hk hb
    by_cases hlt : i < fs.size
    · have hlti : (i : Int) < fs.size := by omega
      have hti : fs.data.toList.take (i + 1) = fs.data.toList.take i ++ [fs[i]] := by rw [byte_at hlt]; exact take_more (by omega)
      have hw9 : IntKind.i64.wrap ((i : Int) + 1) = ((i + 1 : Nat) : Int) := by rw [i64w _ (by omega) (by omega)]; omega
      have HTI := Lib.hid hti
      clear hti
      go_wp2_with fail
      refine (HCT.out.putT fs[i] (by rw [List.length_take]; omega)).mono ?_
      rintro e W5 ⟨v, hv', rfl, hr4, htl, hu4, hn4, hct4, hty⟩
      have hk5 := HK.out.upd hty (fun b c ty hS hc => by
        obtain ⟨c', ty', h1, h2⟩ := hS
        rw [hc] at h1
        simp only [Option.some.injEq, Obj.cells.injEq] at h1
        rw [h1.2.1]
        rcases h2 with rfl | rfl | rfl <;> decide)
      have hb5 : Below W2.heap.size W2 W5 := HBW.out.trans (hu4.below HBW.out.size (fun b hb hh => by have := (own_lo HCT.out hh).1; omega))
      have hfr := fresh HK.out hr4
      have hlen : (news D most (fs.data.toList.take i) fs[i]).length ≤ 1000 := by
        have h1 := tolds_len D most (fs.data.toList.take i ++ [fs[i]])
        rw [htl, List.length_append] at h1
        simp only [List.length_append, List.length_take, List.length_singleton] at h1; omega
      have hbk5 := hk5.bk
      have hbz5 : base ≤ W5.heap.size := Nat.le_trans hbz hu4.size
      go_wp2_with fail
      refine (Keep_calls bb base L lv wv held v _ _ W5 hk5 (hr4.rebase (fun b hb => Nat.le_trans hbz (hr4.lt b hb).1)) (flat_shaped _) (by omega) hfr (by omega) hbz5).mono ?_
      rintro e W6 ⟨⟨z, rfl⟩, L', lv', wv', held', hk6, _, hl6, hu6⟩
      have hb6 : Below W2.heap.size W2 W6 := hb5.trans (hu6.below hb5.size (fun b hb h => by have := h.1; omega))
      have hbz6 := Nat.le_trans hbz5 hu6.size
      have HK6 := Lib.hid hk6
      have HB6 := Lib.hid hb6
      have hct6 := hct4.upd (X := Mine W5 base bb) hu6 (fun hh => by have := hh.1; omega) (fun hh => by have := hh.1; omega) (fun b h1 hh => by
        obtain ⟨c, hc⟩ := hct4.ty b h1
        rcases hh.2 with h2 | ⟨c2, h2⟩
        · rw [h2, hbk5] at hc; simp at hc
        · rw [hc] at h2; simp at h2) (fun b hb hh => by have := hh.1; omega)
      rw [← HTI.out] at hct6
      have HCT6 := Lib.hid hct6
      clear hr4 htl hu4 hn4 hct4 hty hk5 hb5 hfr hlen hu6 hct6 hk6 hb6 hbk5
      go_wp2_with fail
      go_roundg (fs.size - (i + 1))
      case measure => have := HGG.out; omega
      case rel => exact ⟨i + 1, hv', L', lv', wv', held', by omega, rfl, by first | rfl | go_num, HCT6.out, HK6.out, by omega, HB6.out, hbz6⟩
    · have hil : i = fs.size := by omega
      subst hil
      have htk : fs.data.toList.take fs.size = fs.data.toList := List.take_of_length_le (by omega)
      rw [htk] at HCT
      go_wp2_with fail
      refine (HCT.out.endsT (by omega)).mono ?_
      rintro e W5 ⟨v, rfl, hr4, htl, hu4, _, hty⟩
      have hk5 := HK.out.upd hty (fun b c ty hS hc => by
        obtain ⟨c', ty', h1, h2⟩ := hS
        rw [hc] at h1
        simp only [Option.some.injEq, Obj.cells.injEq] at h1
        rw [h1.2.1]
        rcases h2 with rfl | rfl | rfl <;> decide)
      have hb5 : Below W2.heap.size W2 W5 := HBW.out.trans (hu4.below HBW.out.size (fun b hb hh => by have := (own_lo HCT.out hh).1; omega))
      have hfr := fresh HK.out hr4
      have hlen : ((toldE D most fs.data.toList).drop (tolds D most fs.data.toList).length).length ≤ 1000 := by
        have h1 := toldE_len D most fs.data.toList
        rw [htl, List.length_append] at h1
        omega
      have hbk5 := hk5.bk
      have hbz5 : base ≤ W5.heap.size := Nat.le_trans hbz hu4.size
      go_wp2_with fail
      refine (Keep_calls bb base L lv wv held v _ _ W5 hk5 (hr4.rebase (fun b hb => Nat.le_trans hbz (hr4.lt b hb).1)) (flat_shaped _) (by omega) hfr (by omega) hbz5).mono ?_
      rintro e W6 ⟨⟨z, rfl⟩, L', lv', wv', held', hk6, _, hl6, hu6⟩
      have hb6 : Below W2.heap.size W2 W6 := hb5.trans (hu6.below hb5.size (fun b hb h => by have := h.1; omega))
      have hbz6 := Nat.le_trans hbz5 hu6.size
      have HK6 := Lib.hid hk6
      have HB6 := Lib.hid hb6
      clear hr4 htl hu4 hty hk5 hb5 hfr hlen hu6 hk6 hb6 hbk5
      go_wp2_with fail
      refine (Apart_calls 55 (fun i _ => -100 - (i : Int)) (fun _ j => -(j : Int)) (fun _ _ => 0) mark_calls (Go.Proofs.enters_of Tryd.func55 (by kernel_rfl) rfl) bb base L' lv' wv' held' W6 HK6.out (by omega) hbz6).mono ?_
      rintro e W7 ⟨rfl, hb7⟩
      have HB7 := Lib.hid (chain HB.out (HB6.out.trans (hb7.mono (by omega))) : Below w.heap.size w W7)
      clear hb7
      go_wp2_with fail
      refine (Law13.known_calls W7 (HT.out.below HB7.out)).mono ?_
      rintro e W8 ⟨rfl, hb8⟩
      have HB8 := Lib.hid (chain HB7.out hb8)
      clear hb8
      go_wp2_with fail
      go_ret
      exact ⟨rfl, HB8.out⟩
end Go.Proofs.YtendkmldecoogaaDoor.stepKept
