/-
  The walk of the law StepWhole.
-/
import Derived.Test.YtendkmldecoogaaDoorStepCt
import Derived.Test.YtendkmldecoogaaDoorWithin
import Derived.Test.YtendkmldecoogaaDoorSameTok
namespace Go.Proofs.YtendkmldecoogaaDoor.stepWhole
open Go Go.RowKit Go.Proofs.YtendkmldecoogaaDoor Go.Proofs.YtendkmldecoogaaDoor.Kit Go.Proofs.YtendkmldecoogaaDoor.Round Go.Proofs.YtendkmldecoogaaDoor.Seg Go.Proofs.YtendkmldecoogaaDoor.Collect Go.Proofs.YtendkmldecoogaaDoor.Utf Go.Proofs.YtendkmldecoogaaDoor.It Go.Proofs.YtendkmldecoogaaDoor.ItGo Go.Proofs.YtendkmldecoogaaDoor.Dt Go.Proofs.YtendkmldecoogaaDoor.Mo Go.Proofs.YtendkmldecoogaaDoor.MoNew Go.Proofs.YtendkmldecoogaaDoor.Keep Go.Proofs.YtendkmldecoogaaDoor.Cu Go.Proofs.YtendkmldecoogaaDoor.CutAll Go.Proofs.YtendkmldecoogaaDoor.CutTokens Go.Proofs.YtendkmldecoogaaDoor.CutAs Go.Proofs.YtendkmldecoogaaDoor.Within Go.Proofs.YtendkmldecoogaaDoor.StepLaw Go.Proofs.YtendkmldecoogaaDoor.StepRun Go.Proofs.YtendkmldecoogaaDoor.StepCt Go.Proofs.YtendkmldecoogaaDoor.StepMore Go.Proofs.YtendkmldecoogaaDoor.Law13 Go.Proofs.YtendkmldecoogaaDoor.SameTok
attribute [local irreducible] wpQuiet wpStill
set_option linter.unusedSimpArgs false


set_option maxHeartbeats 4000000 in
set_option maxRecDepth 100000 in
theorem walk (D : Dt) (Q : Pl) (n : Int) (s : ByteArray) (w : World) (hd : At w D Q) (hn : -9223372036854775808 ≤ n ∧ n ≤ 9223372036854775807) (_hs : s.size ≤ 140737488355328) (hT : Tabs w) :
    Calls Tryd.prog 16 #[.agg #[.slice Q.a0 D.nw Q.c0, .slice Q.a1 D.nm Q.c1, .slice Q.a2 D.n0 Q.c2, .slice Q.a3 D.n1 Q.c3, .slice Q.a4 D.n2 Q.c4], .int .i64 n, .string s] w fun e w' => e = .returned (.bool true) ∧ Below w.heap.size w w' := by
  have HA := Lib.hid hd
  have HT := Lib.hid hT
  clear hd hT
  obtain ⟨W1, hW1⟩ : ∃ Xz, w.alloc (.cells #[.slice Q.a0 D.nw Q.c0, .slice Q.a1 D.nm Q.c1, .slice Q.a2 D.n0 Q.c2, .slice Q.a3 D.n1 Q.c3, .slice Q.a4 D.n2 Q.c4] 33) = Xz := ⟨_, rfl⟩
  obtain ⟨bd, hbd⟩ : ∃ xz, w.heap.size = xz := ⟨_, rfl⟩
  have hb1 : Below w.heap.size w W1 := by rw [← hW1]; exact (Below.refl _ _).alloc (Nat.le_refl _) _
  have HX := Lib.hid (by rw [← hW1, ← hbd]; exact alloc_new rfl : W1.heap[bd]? = some (.cells #[.slice Q.a0 D.nw Q.c0, .slice Q.a1 D.nm Q.c1, .slice Q.a2 D.n0 Q.c2, .slice Q.a3 D.n1 Q.c3, .slice Q.a4 D.n2 Q.c4] 33 (0, 0)))
  have EW1 := Lib.hid hW1
  have Ebd := Lib.hid hbd
  clear hW1 hbd
  have HB := Lib.hid hb1
  have HA := Lib.hid (HA.out.below hb1)
  have HO := Lib.hid (Of_calls D Q W1 HA.out)
  clear hb1
  have x0 := cell_at HX.out 0
  have x1 := cell_at HX.out 1
  have x2 := cell_at HX.out 2
  have x3 := cell_at HX.out 3
  have x4 := cell_at HX.out 4
  have xz := lt_of_heap HX.out
  simp only [List.getElem?_toArray, List.getElem?_cons_zero, List.getElem?_cons_succ] at x0 x1 x2 x3 x4
  obtain ⟨fs, hfs⟩ : ∃ z, few s 1000 = z := ⟨_, rfl⟩
  have hf1 := few_size s 1000
  have HF := Lib.hid (fun w => Law13.few_calls s 1000 w (by decide))
  rw [hfs] at HF hf1
  have hfz : fs.size ≤ 1000 := hf1.1
  have hls := size_list fs
  clear hfs hf1
  go_enter Tryd.func16, Tryd.ntmps16
  go_upto_region 1 with fail
  rw [EW1.out, Ebd.out]
  go_wp2_with fail
  refine HO.out.mono ?_
  clear x0 x1 x2 x3 x4 xz
  rintro e W2 (⟨rfl, hb2⟩ | ⟨mb, rfl, hM, _, hb2, _⟩)
  · have HB := Lib.hid (chain HB.out hb2)
    clear hb2
    go_wp2_with fail
    refine (Law13.known_calls W2 (HT.out.below HB.out)).mono ?_
    rintro e W3 ⟨rfl, hb3⟩
    have HB := Lib.hid (chain HB.out hb3)
    clear hb3
    go_wp2_with fail
    go_ret
    exact ⟨rfl, HB.out⟩
  have HM := Lib.hid hM
  have HG := Lib.hid (Good.of_mod hM)
  have HB := Lib.hid (chain HB.out hb2)
  clear hM hb2
  go_wp2_with fail
  refine (Within_calls n 1 60 W2 (by decide) (by decide) (by decide) hn.1 hn.2).mono ?_
  have hm1 := Int.emod_nonneg n (b := 60) (by omega)
  have hm2 := Int.emod_lt_of_pos n (b := 60) (by omega)
  obtain ⟨most, hk⟩ : ∃ k : Nat, 1 + n % (60 - 1 + 1) = (k : Int) := ⟨(1 + n % 60).toNat, by omega⟩
  have hmo : 1 ≤ most ∧ most ≤ 60 := by omega
  rw [hk]
  rintro e w' ⟨rfl, rfl⟩
  clear hk hm1 hm2
  go_wp2_with fail
  refine (HF.out W2).mono ?_
  rintro e w' ⟨rfl, rfl⟩
  go_wp2_with fail
  refine (StepGo.New_calls mb most W2 HM.out (HT.out.below HB.out) ⟨hmo.1, by omega⟩).mono ?_
  rintro e W3 ⟨cb, tb, sb, rfl, hc3, hb3⟩
  have HC := Lib.hid (Ct.new HM.out hc3)
  have HB3 := Lib.hid hb3
  have hz3 : W2.heap.size ≤ W3.heap.size := hb3.size
  clear hc3 hb3
  go_wp2_with fail
  go_loopg [12, 13] fs.size (fun g s12 s13 wr => ∃ (i : Nat) (hv : Value), i ≤ fs.size ∧ g = fs.size - i ∧ s13 = .int .i64 i ∧ Ct W2 D most cb tb sb wr hv (fs.data.toList.take i) ∧ TRow wr W3.heap.size s12 (tolds D most (fs.data.toList.take i)) ∧ Apart cb sb hv s12 ∧ Below W2.heap.size W2 wr ∧ W3.heap.size ≤ wr.heap.size)
  case atStart => exact ⟨0, _, Nat.zero_le _, by omega, rfl, by simpa using HC.out, Seg.nil _ _ _ _, fun b hb => by simp [Value.ownBlock] at hb, HB3.out, Nat.le_refl _⟩
  case round =>
    obtain ⟨i, hv, hi, hg, rfl, hct, hrow, hap, hbw, hzw⟩ := hrel
    have HGG := Lib.hid hg
    have HCT := Lib.hid hct
    have HROW := Lib.hid hrow
    have HAP := Lib.hid hap
    have HBW := Lib.hid hbw
    have HZW := Lib.hid hzw
    clear hg hct hrow hap hbw hzw
    by_cases hlt : i < fs.size
    · have hlti : (i : Int) < fs.size := by omega
      have hti : fs.data.toList.take (i + 1) = fs.data.toList.take i ++ [fs[i]] := by rw [byte_at hlt]; exact take_more (by omega)
      have hw9 : IntKind.i64.wrap ((i : Int) + 1) = ((i + 1 : Nat) : Int) := by rw [i64w _ (by omega) (by omega)]; omega
      have HTI := Lib.hid hti
      clear hti
      go_wp2_with fail
      refine (HCT.out.put fs[i] (by rw [List.length_take]; omega)).mono ?_
      rintro e W4 ⟨v, hv', rfl, hr4, htl, hu4, hn4, hct4⟩
      obtain ⟨V, A, hrun, hra, hua, hoa⟩ := more (keep_row hu4 HROW.out HAP.out) hr4 (Nat.le_trans HZW.out hu4.size) (by
        have h1 := tolds_len D most (fs.data.toList.take i ++ [fs[i]])
        rw [htl, List.length_append] at h1
        simp only [List.length_append, List.length_take, List.length_singleton] at h1
        omega) 22
      obtain ⟨hctA, hapA⟩ := turn hn4 hct4 HROW.out HAP.out hz3 hua hoa
      have hbA : Below W2.heap.size W2 A := (HBW.out.trans (hu4.below HBW.out.size (fun b hb hh => by have := (own_lo HCT.out hh).1; omega))).trans (hua.below (Nat.le_trans HBW.out.size hu4.size) (fun b hb hh => by have := (Seg.lt HROW.out b hh).1; omega))
      rw [← htl, ← HTI.out] at hra
      rw [← HTI.out] at hctA
      have HRUN := Lib.hid hrun
      have HRA := Lib.hid hra
      have HCTA := Lib.hid hctA
      have HAPA := Lib.hid hapA
      have HBA := Lib.hid hbA
      have HZA := Lib.hid (Nat.le_trans HZW.out (Nat.le_trans hu4.size hua.size))
      clear hr4 htl hu4 hn4 hct4 hrun hra hua hoa hctA hapA hbA
      go_wp2_with (at_builtin; refine append_run rfl rfl rfl rfl HRUN.out ?_)
      go_roundg (fs.size - (i + 1))
      case measure => have := HGG.out; omega
      case rel => exact ⟨i + 1, hv', by omega, rfl, by first | rfl | go_num, HCTA.out, HRA.out, HAPA.out, HBA.out, HZA.out⟩
    · have hil : i = fs.size := by omega
      subst hil
      have htk : fs.data.toList.take fs.size = fs.data.toList := List.take_of_length_le (by omega)
      rw [htk] at HCT HROW
      go_wp2_with fail
      refine (HCT.out.ends (by omega)).mono ?_
      rintro e W4 ⟨v, rfl, hr4, htl, hu4, no, hsh⟩
      obtain ⟨V, A, hrun, hra, hua, hoa⟩ := more (keep_row hu4 HROW.out HAP.out) hr4 (Nat.le_trans HZW.out hu4.size) (by
        have h1 := toldE_len D most fs.data.toList
        rw [htl, List.length_append] at h1
        omega) 22
      have hbA : Below W2.heap.size W2 A := (HBW.out.trans (hu4.below HBW.out.size (fun b hb hh => by have := (own_lo HCT.out hh).1; omega))).trans (hua.below (Nat.le_trans HBW.out.size hu4.size) (fun b hb hh => by have := (Seg.lt HROW.out b hh).1; omega))
      rw [← htl] at hra
      have HSH := Lib.hid (hsh.upd hua (fun e => HAP.out cb e (.inl rfl)))
      have HRUN := Lib.hid hrun
      have HRA := Lib.hid hra
      have HBA := Lib.hid hbA
      clear hr4 htl hu4 hrun hra hua hoa hbA hsh
      go_wp2_with (at_builtin; refine append_run rfl rfl rfl rfl HRUN.out ?_)
      refine (Tokens_calls D mb fs A (HM.out.below HBA.out) (HT.out.below (chain HB.out HBA.out)) (by omega)).mono ?_
      rintro e W5 ⟨vt, rfl, hrt, hb5⟩
      have HSH := Lib.hid (HSH.out.upd (X := fun _ => False) (Upd.of_below hb5) id)
      have HRA := Lib.hid (HRA.out.below hb5)
      have HB5 := Lib.hid (chain (chain HB.out HBA.out) hb5)
      obtain ⟨T, hTT⟩ : ∃ T, toks D 0 fs.data.toList = T := ⟨_, rfl⟩
      have hte : toldE D most fs.data.toList = T.takeWhile (okT most) := by unfold toldE; rw [hTT]
      have hoe : overE D most fs.data.toList = !T.all (okT most) := by unfold overE; rw [hTT]
      rw [hTT] at hrt
      rw [hte] at HRA
      rw [hoe] at HSH
      have hat := CutPlain.toks_at HG.out fs.data.toList 0
      have hlen := toks_len D HG.out fs.data.toList 0
      rw [hTT] at hat hlen
      obtain ⟨av, cv, rfl, hcv, hcells⟩ := hrt.shape
      have HCE := Lib.hid hcells
      have HRT := Lib.hid hrt
      have HAT := Lib.hid hat
      clear hrt hb5 hTT hte hoe hat hcells
      go_wp2_with fail
      go_loopg [16] T.length (fun g s16 wr => ∃ k : Nat, k ≤ T.length ∧ g = T.length - k ∧ s16 = .int .i64 k ∧ (∀ i, i < k → okT most (T.getD i default) = true) ∧ Below W5.heap.size W5 wr)
      case atStart => exact ⟨0, Nat.zero_le _, by omega, rfl, fun i hi => by omega, Below.refl _ _⟩
      case round =>
        obtain ⟨k, hk, hg, rfl, hok, hb⟩ := hrel
        have HG2 := Lib.hid hg
        have HOK := Lib.hid hok
        have HBB := Lib.hid hb
        clear hg hok
        by_cases hlt : k < T.length
        · have hlti : (k : Int) < T.length := by omega
          obtain ⟨g, o, rfl, _, hgl, hce⟩ := HCE.out k hlt
          obtain ⟨c0, c1, _⟩ := hce k hlt
          rw [← cell_keep (hb.block g hgl)] at c0 c1
          obtain ⟨_, hx1, hx2, _⟩ := HAT.out k hlt
          obtain ⟨x, hx⟩ : ∃ x, T.getD k default = x := ⟨_, rfl⟩
          rw [hx] at c0 c1 hx1 hx2
          have zg : g < wr.heap.size := Nat.lt_of_lt_of_le hgl hb.size
          have hw8 : IntKind.i64.wrap ((x.b : Int) - x.a) = (x.b : Int) - x.a := i64w _ (by omega) (by omega)
          by_cases hle : x.b - x.a ≤ most
          · have hlei : (x.b : Int) - x.a ≤ most := by omega
            have hok1 : okT most (T.getD k default) = true := by rw [hx]; simp [okT, hle]
            have hok2 := Lib.hid (show ∀ i, i < k + 1 → okT most (T.getD i default) = true from fun i hi => by
              rcases Nat.lt_or_ge i k with h | h
              · exact HOK.out i h
              · rw [show i = k by omega]; exact hok1)
            clear hce hgl hb hx hle hok1
            go_wp2_with fail
            refine region_calm (by kernel_rfl) (by kernel_rfl) ?_
            repeat (quiet_step ((fail)))
            refine wpQuiet_nil ?_
            rintro _ ⟨y, rfl⟩
            have HBB := Lib.hid (Later.chain HBB.out y)
            generalize y.w = V at HBB ⊢
            go_wp2_with fail
            go_roundg (T.length - (k + 1))
            case measure => have := HG2.out; omega
            case rel => exact ⟨k + 1, by omega, rfl, by first | rfl | go_num, hok2.out, HBB.out⟩
          · have hlei : ¬ ((x.b : Int) - x.a ≤ most) := by omega
            have hno : okT most (T.getD k default) = false := by rw [hx]; simp [okT]; omega
            have HNO := Lib.hid (show k < T.length → okT most (T.getD k default) = false from fun _ => hno)
            have hki : decide ((k : Int) < T.length) = true := by simp; omega
            clear hce hgl hb hx hle hno
            go_wp2_with fail
            refine region_calm (by kernel_rfl) (by kernel_rfl) ?_
            repeat (quiet_step ((fail)))
            refine wpQuiet_nil ?_
            rintro _ ⟨y, rfl⟩
            have hby := Later.chain HBB.out y
            have htw := while_take hk HOK.out HNO.out
            have hall := all_of hk HOK.out HNO.out
            have hra := (HRA.out.below hby)
            rw [htw] at hra
            obtain ⟨ar, cr, rfl, hrow1⟩ := row_take hk hra
            have hrow2 := (row_all (HRT.out.below hby)).mono hk
            have HSM := Lib.hid (Same_calls ar _ k cr cv _ _ _ y.w hrow1 hrow2 (by omega))
            have HSY := Lib.hid (HSH.out.upd (X := fun _ => False) (Upd.of_below hby) id)
            rw [hall, show (!decide (¬ k < T.length)) = true by simp; omega] at HSY
            have HBY := Lib.hid (chain HB5.out hby)
            have hkc : (k : Int) ≤ cv := by omega
            clear hby htw hall hra hrow1 hrow2
            generalize y.w = V at HSM HSY HBY ⊢
            go_wp2_with fail
            refine HSM.out.mono ?_
            rintro e V1 ⟨rfl, hv1⟩
            have HSY := Lib.hid (HSY.out.upd (X := fun _ => False) (Upd.of_below hv1) id)
            have HBY := Lib.hid (chain HBY.out hv1)
            clear hv1 HSM
            go_wp2_with fail
            refine HSY.out.over.mono ?_
            rintro e V2 ⟨rfl, rfl⟩
            go_wp2_with fail
            refine (Law13.known_calls V2 (HT.out.below HBY.out)).mono ?_
            rintro e V3 ⟨rfl, hv3⟩
            have HBY := Lib.hid (chain HBY.out hv3)
            clear hv3
            go_wp2_with fail
            go_ret
            exact ⟨rfl, HBY.out⟩
        · have hlti : ¬ ((k : Int) < T.length) := by omega
          have HNO := Lib.hid (show k < T.length → okT most (T.getD k default) = false from fun h => absurd h hlt)
          have hki : decide ((k : Int) < T.length) = false := by simp; omega
          clear hb
          go_wp2_with fail
          refine region_calm (by kernel_rfl) (by kernel_rfl) ?_
          repeat (quiet_step ((fail)))
          refine wpQuiet_nil ?_
          rintro _ ⟨y, rfl⟩
          have hby := Later.chain HBB.out y
          have htw := while_take hk HOK.out HNO.out
          have hall := all_of hk HOK.out HNO.out
          have hra := (HRA.out.below hby)
          rw [htw] at hra
          obtain ⟨ar, cr, rfl, hrow1⟩ := row_take hk hra
          have hrow2 := (row_all (HRT.out.below hby)).mono hk
          have HSM := Lib.hid (Same_calls ar _ k cr cv _ _ _ y.w hrow1 hrow2 (by omega))
          have HSY := Lib.hid (HSH.out.upd (X := fun _ => False) (Upd.of_below hby) id)
          rw [hall, show (!decide (¬ k < T.length)) = false by simp; omega] at HSY
          have HBY := Lib.hid (chain HB5.out hby)
          have hkc : (k : Int) ≤ cv := by omega
          clear hby htw hall hra hrow1 hrow2
          generalize y.w = V at HSM HSY HBY ⊢
          go_wp2_with fail
          refine HSM.out.mono ?_
          rintro e V1 ⟨rfl, hv1⟩
          have HSY := Lib.hid (HSY.out.upd (X := fun _ => False) (Upd.of_below hv1) id)
          have HBY := Lib.hid (chain HBY.out hv1)
          clear hv1 HSM
          go_wp2_with fail
          refine HSY.out.over.mono ?_
          rintro e V2 ⟨rfl, rfl⟩
          go_wp2_with fail
          refine (Law13.known_calls V2 (HT.out.below HBY.out)).mono ?_
          rintro e V3 ⟨rfl, hv3⟩
          have HBY := Lib.hid (chain HBY.out hv3)
          clear hv3
          go_wp2_with fail
          go_ret
          exact ⟨rfl, HBY.out⟩
end Go.Proofs.YtendkmldecoogaaDoor.stepWhole
