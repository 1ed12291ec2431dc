/-
  The walk of the law StepSooner.
-/
import Derived.Test.YtendkmldecoogaaDoorStepCt
import Derived.Test.YtendkmldecoogaaDoorWithin
import Derived.Test.YtendkmldecoogaaDoorSameTok
namespace Go.Proofs.YtendkmldecoogaaDoor.stepSooner
open Go Go.RowKit Go.Proofs.YtendkmldecoogaaDoor Go.Proofs.YtendkmldecoogaaDoor.Kit Go.Proofs.YtendkmldecoogaaDoor.Round Go.Proofs.YtendkmldecoogaaDoor.Seg Go.Proofs.YtendkmldecoogaaDoor.Collect Go.Proofs.YtendkmldecoogaaDoor.Utf Go.Proofs.YtendkmldecoogaaDoor.It Go.Proofs.YtendkmldecoogaaDoor.ItGo Go.Proofs.YtendkmldecoogaaDoor.Dt Go.Proofs.YtendkmldecoogaaDoor.Mo Go.Proofs.YtendkmldecoogaaDoor.MoNew Go.Proofs.YtendkmldecoogaaDoor.Keep Go.Proofs.YtendkmldecoogaaDoor.Cu Go.Proofs.YtendkmldecoogaaDoor.CutAll Go.Proofs.YtendkmldecoogaaDoor.CutTokens Go.Proofs.YtendkmldecoogaaDoor.CutAs Go.Proofs.YtendkmldecoogaaDoor.Within Go.Proofs.YtendkmldecoogaaDoor.StepLaw Go.Proofs.YtendkmldecoogaaDoor.StepRun Go.Proofs.YtendkmldecoogaaDoor.StepCt Go.Proofs.YtendkmldecoogaaDoor.StepMore Go.Proofs.YtendkmldecoogaaDoor.Law13 Go.Proofs.YtendkmldecoogaaDoor.SameTok
attribute [local irreducible] wpQuiet wpStill
set_option linter.unusedSimpArgs false

theorem told_prefix (D : Dt) (most : Nat) (l m : List UInt8) : ∃ Z, toks D 0 (l ++ m) = tolds D most l ++ Z := by
  obtain ⟨Y, hY⟩ := items_app l m
  unfold toks
  rw [hY, ofI_app (D := D) Y true _ (L l) (Nat.le_refl _)]
  have h := List.takeWhile_append_dropWhile (p := okT most) (l := (R D l).1)
  refine ⟨(R D l).1.dropWhile (okT most) ++ (ofI D ((L l).drop (R D l).2 ++ Y) true).1, ?_⟩
  rw [← List.append_assoc]
  unfold tolds
  rw [h]
  rfl

set_option maxHeartbeats 4000000 in
set_option maxRecDepth 100000 in
theorem walk (D : Dt) (Q : Pl) (s t : ByteArray) (w : World) (hd : At w D Q) (_hs : s.size ≤ 140737488355328) (_ht : t.size ≤ 140737488355328) (hT : Tabs w) :
    Calls Tryd.prog 17 #[.agg #[.slice Q.a0 D.nw Q.c0, .slice Q.a1 D.nm Q.c1, .slice Q.a2 D.n0 Q.c2, .slice Q.a3 D.n1 Q.c3, .slice Q.a4 D.n2 Q.c4], .string s, .string t] w fun e w' => e = .returned (.bool true) ∧ Below w.heap.size w w' := by
  have HA := Lib.hid hd
  have HT := Lib.hid hT
  clear hd hT
  obtain ⟨W1, hW1⟩ : ∃ Xz, w.alloc (.cells #[.slice Q.a0 D.nw Q.c0, .slice Q.a1 D.nm Q.c1, .slice Q.a2 D.n0 Q.c2, .slice Q.a3 D.n1 Q.c3, .slice Q.a4 D.n2 Q.c4] 33) = Xz := ⟨_, rfl⟩
  obtain ⟨bd, hbd⟩ : ∃ xz, w.heap.size = xz := ⟨_, rfl⟩
  have hb1 : Below w.heap.size w W1 := by rw [← hW1]; exact (Below.refl _ _).alloc (Nat.le_refl _) _
  have HX := Lib.hid (by rw [← hW1, ← hbd]; exact alloc_new rfl : W1.heap[bd]? = some (.cells #[.slice Q.a0 D.nw Q.c0, .slice Q.a1 D.nm Q.c1, .slice Q.a2 D.n0 Q.c2, .slice Q.a3 D.n1 Q.c3, .slice Q.a4 D.n2 Q.c4] 33 (0, 0)))
  have EW1 := Lib.hid hW1
  have Ebd := Lib.hid hbd
  clear hW1 hbd
  have HB := Lib.hid hb1
  have HA := Lib.hid (HA.out.below hb1)
  have HO := Lib.hid (Of_calls D Q W1 HA.out)
  clear hb1
  have x0 := cell_at HX.out 0
  have x1 := cell_at HX.out 1
  have x2 := cell_at HX.out 2
  have x3 := cell_at HX.out 3
  have x4 := cell_at HX.out 4
  have xz := lt_of_heap HX.out
  simp only [List.getElem?_toArray, List.getElem?_cons_zero, List.getElem?_cons_succ] at x0 x1 x2 x3 x4
  obtain ⟨fs, hfs⟩ : ∃ z, few s 300 = z := ⟨_, rfl⟩
  obtain ⟨ft, hft⟩ : ∃ z, few t 300 = z := ⟨_, rfl⟩
  have hf1 := few_size s 300
  have hf2 := few_size t 300
  have HF := Lib.hid (fun w => Law13.few_calls s 300 w (by decide))
  have HF2 := Lib.hid (fun w => Law13.few_calls t 300 w (by decide))
  rw [hfs] at HF hf1
  rw [hft] at HF2 hf2
  have hfz : fs.size ≤ 300 := hf1.1
  have hftz : ft.size ≤ 300 := hf2.1
  have hls := size_list fs
  have hlt2 := size_list ft
  clear hfs hf1 hft hf2
  go_enter Tryd.func17, Tryd.ntmps17
  go_upto_region 1 with fail
  rw [EW1.out, Ebd.out]
  go_wp2_with fail
  refine HO.out.mono ?_
  clear x0 x1 x2 x3 x4 xz
  rintro e W2 (⟨rfl, hb2⟩ | ⟨mb, rfl, hM, _, hb2, _⟩)
  · have HB := Lib.hid (chain HB.out hb2)
    clear hb2
    go_wp2_with fail
    refine (Law13.known_calls W2 (HT.out.below HB.out)).mono ?_
    rintro e W3 ⟨rfl, hb3⟩
    have HB := Lib.hid (chain HB.out hb3)
    clear hb3
    go_wp2_with fail
    go_ret
    exact ⟨rfl, HB.out⟩
  have HM := Lib.hid hM
  have HG := Lib.hid (Good.of_mod hM)
  have HB := Lib.hid (chain HB.out hb2)
  clear hM hb2
  obtain ⟨most, hmost⟩ : ∃ k : Nat, k = 65536 := ⟨_, rfl⟩
  have hmi : (65536 : Int) = (most : Int) := by omega
  go_wp2_with fail
  refine (HF.out W2).mono ?_
  rintro e w' ⟨rfl, rfl⟩
  go_wp2_with fail
  refine (HF2.out W2).mono ?_
  rintro e w' ⟨rfl, rfl⟩
  clear hmi
  go_wp2_with fail
  have hnew := StepGo.New_calls mb most W2 HM.out (HT.out.below HB.out) ⟨by omega, by omega⟩
  rw [show ((most : Nat) : Int) = 65536 by omega] at hnew
  refine hnew.mono ?_
  rintro e W3 ⟨cb, tb, sb, rfl, hc3, hb3⟩
  have HC := Lib.hid (Ct.new HM.out hc3)
  have HB3 := Lib.hid hb3
  have hz3 : W2.heap.size ≤ W3.heap.size := hb3.size
  clear hc3 hb3 hnew hmost
  go_wp2_with fail
  go_loopg [12, 13] fs.size (fun g s12 s13 wr => ∃ (i : Nat) (hv : Value), i ≤ fs.size ∧ g = fs.size - i ∧ s13 = .int .i64 i ∧ Ct W2 D most cb tb sb wr hv (fs.data.toList.take i) ∧ TRow wr W3.heap.size s12 (tolds D most (fs.data.toList.take i)) ∧ Apart cb sb hv s12 ∧ Below W2.heap.size W2 wr ∧ W3.heap.size ≤ wr.heap.size)
  case atStart => exact ⟨0, _, Nat.zero_le _, by omega, rfl, by simpa using HC.out, Seg.nil _ _ _ _, fun b hb => by simp [Value.ownBlock] at hb, HB3.out, Nat.le_refl _⟩
  case round =>
    obtain ⟨i, hv, hi, hg, rfl, hct, hrow, hap, hbw, hzw⟩ := hrel
    have HGG := Lib.hid hg
    have HCT := Lib.hid hct
    have HROW := Lib.hid hrow
    have HAP := Lib.hid hap
    have HBW := Lib.hid hbw
    have HZW := Lib.hid hzw
    clear hg hct hrow hap hbw hzw
    by_cases hlt : i < fs.size
    · have hlti : (i : Int) < fs.size := by omega
      have hti : fs.data.toList.take (i + 1) = fs.data.toList.take i ++ [fs[i]] := by rw [byte_at hlt]; exact take_more (by omega)
      have hw9 : IntKind.i64.wrap ((i : Int) + 1) = ((i + 1 : Nat) : Int) := by rw [i64w _ (by omega) (by omega)]; omega
      have HTI := Lib.hid hti
      clear hti
      go_wp2_with fail
      refine (HCT.out.put fs[i] (by rw [List.length_take]; omega)).mono ?_
      rintro e W4 ⟨v, hv', rfl, hr4, htl, hu4, hn4, hct4⟩
      obtain ⟨V, A, hrun, hra, hua, hoa⟩ := more (keep_row hu4 HROW.out HAP.out) hr4 (Nat.le_trans HZW.out hu4.size) (by
        have h1 := tolds_len D most (fs.data.toList.take i ++ [fs[i]])
        rw [htl, List.length_append] at h1
        simp only [List.length_append, List.length_take, List.length_singleton] at h1
        omega) 22
      obtain ⟨hctA, hapA⟩ := turn hn4 hct4 HROW.out HAP.out hz3 hua hoa
      have hbA : Below W2.heap.size W2 A := (HBW.out.trans (hu4.below HBW.out.size (fun b hb hh => by have := (own_lo HCT.out hh).1; omega))).trans (hua.below (Nat.le_trans HBW.out.size hu4.size) (fun b hb hh => by have := (Seg.lt HROW.out b hh).1; omega))
      rw [← htl, ← HTI.out] at hra
      rw [← HTI.out] at hctA
      have HRUN := Lib.hid hrun
      have HRA := Lib.hid hra
      have HCTA := Lib.hid hctA
      have HAPA := Lib.hid hapA
      have HBA := Lib.hid hbA
      have HZA := Lib.hid (Nat.le_trans HZW.out (Nat.le_trans hu4.size hua.size))
      clear hr4 htl hu4 hn4 hct4 hrun hra hua hoa hctA hapA hbA
      go_wp2_with (at_builtin; refine append_run rfl rfl rfl rfl HRUN.out ?_)
      go_roundg (fs.size - (i + 1))
      case measure => have := HGG.out; omega
      case rel => exact ⟨i + 1, hv', by omega, rfl, by first | rfl | go_num, HCTA.out, HRA.out, HAPA.out, HBA.out, HZA.out⟩
    · have hil : i = fs.size := by omega
      subst hil
      have htk : fs.data.toList.take fs.size = fs.data.toList := List.take_of_length_le (by omega)
      rw [htk] at HCT HROW
      obtain ⟨Z1, hp1⟩ := told_prefix D most fs.data.toList ft.data.toList
      obtain ⟨Z2, hp2⟩ := told_prefix D most fs.data.toList []
      rw [List.append_nil] at hp2
      have hlt1 := tolds_len D most fs.data.toList
      have hn1 := toks_len D HG.out (fs.data.toList ++ ft.data.toList) 0
      have hn2 := toks_len D HG.out fs.data.toList 0
      obtain ⟨Tl, hTl⟩ : ∃ z, tolds D most fs.data.toList = z := ⟨_, rfl⟩
      rw [hTl] at hp1 hp2 hlt1 HROW
      obtain ⟨T1, hT1⟩ : ∃ z, toks D 0 (fs.data.toList ++ ft.data.toList) = z := ⟨_, rfl⟩
      obtain ⟨T2, hT2⟩ : ∃ z, toks D 0 fs.data.toList = z := ⟨_, rfl⟩
      rw [hT1] at hp1 hn1
      rw [hT2] at hp2 hn2
      rw [List.length_append] at hn1
      obtain ⟨k, hk⟩ : ∃ z, Tl.length = z := ⟨_, rfl⟩
      have hk1 : k ≤ T1.length := by rw [hp1, List.length_append]; omega
      have hk2 : k ≤ T2.length := by rw [hp2, List.length_append]; omega
      have ht1 : T1.take k = Tl := by rw [hp1, ← hk]; exact List.take_left
      have ht2 : T2.take k = Tl := by rw [hp2, ← hk]; exact List.take_left
      obtain ⟨al, cl, hvl, hcl, _⟩ := TRow.shape HROW.out
      rw [hk] at hvl hcl
      subst hvl
      have hcat : (fs ++ ft).data.toList = fs.data.toList ++ ft.data.toList := by simp
      have hcsz : (fs ++ ft).size ≤ 600 := by rw [← size_list, hcat, List.length_append]; omega
      have HM3 := Lib.hid (HM.out.below HBW.out)
      have HB4 := Lib.hid (chain HB.out HBW.out)
      have HTK1 := Lib.hid (Tokens_calls D mb (fs ++ ft) wr HM3.out (HT.out.below HB4.out) (by omega))
      rw [hcat, hT1] at HTK1
      have HR1 := Lib.hid (ht1 ▸ HROW.out : TRow wr W3.heap.size (.slice al k cl) (T1.take k))
      have HR2 := Lib.hid (ht2 ▸ HROW.out : TRow wr W3.heap.size (.slice al k cl) (T2.take k))
      clear hp1 hp2 hT1 ht1 ht2 hcat hTl hk
      go_wp2_with fail
      refine HTK1.out.mono ?_
      rintro e W5 ⟨v1, rfl, hr1, hb5⟩
      obtain ⟨a1, c1, rfl, hc1, _⟩ := TRow.shape hr1
      have HA1 := Lib.hid hr1
      have HB5 := Lib.hid hb5
      have HTK2 := Lib.hid (Tokens_calls D mb fs W5 (HM3.out.below hb5) (HT.out.below (chain HB4.out hb5)) (by omega))
      rw [hT2] at HTK2
      clear hr1 hb5 hT2 HTK1
      go_wp2_with fail
      refine HTK2.out.mono ?_
      rintro e W6 ⟨v2, rfl, hr2, hb6⟩
      obtain ⟨a2, c2, rfl, hc2, _⟩ := TRow.shape hr2
      have HA2 := Lib.hid hr2
      have HA1 := Lib.hid (HA1.out.below hb6)
      have HBW6 := Lib.hid (chain HB5.out hb6)
      have HR1 := Lib.hid (HR1.out.below HBW6.out)
      have HR2 := Lib.hid (HR2.out.below HBW6.out)
      have HB6 := Lib.hid (chain HB4.out HBW6.out)
      clear hr2 hb6 HTK2
      have q1 : ¬ ((T1.length : Int) < k) := by omega
      have q2 : ¬ ((T2.length : Int) < k) := by omega
      have q3 : (k : Int) ≤ c1 := by omega
      have q4 : (k : Int) ≤ c2 := by omega
      obtain ⟨ax, cx, hvx, hrow1⟩ := row_take hk1 HR1.out
      simp only [Value.slice.injEq, true_and] at hvx
      obtain ⟨rfl, rfl⟩ := hvx
      have HSM1 := Lib.hid (Same_calls al _ k cl c1 _ _ _ W6 hrow1 ((row_all HA1.out).mono hk1) (by omega))
      clear hrow1
      go_wp2_with fail
      refine HSM1.out.mono ?_
      rintro e W7 ⟨rfl, hb7⟩
      obtain ⟨ax, cx, hvx, hrow1⟩ := row_take hk2 (HR2.out.below hb7)
      simp only [Value.slice.injEq, true_and] at hvx
      obtain ⟨rfl, rfl⟩ := hvx
      have HSM2 := Lib.hid (Same_calls al _ k cl c2 _ _ _ W7 hrow1 ((row_all (HA2.out.below hb7)).mono hk2) (by omega))
      have HB7 := Lib.hid (chain HB6.out hb7)
      clear hrow1 hb7 HSM1
      go_wp2_with fail
      refine HSM2.out.mono ?_
      rintro e W8 ⟨rfl, hb8⟩
      have HB8 := Lib.hid (chain HB7.out hb8)
      clear hb8 HSM2
      go_wp2_with fail
      refine (Law13.known_calls W8 (HT.out.below HB8.out)).mono ?_
      rintro e W9 ⟨rfl, hb9⟩
      have HB9 := Lib.hid (chain HB8.out hb9)
      clear hb9
      go_wp2_with fail
      go_ret
      exact ⟨rfl, HB9.out⟩
end Go.Proofs.YtendkmldecoogaaDoor.stepSooner
