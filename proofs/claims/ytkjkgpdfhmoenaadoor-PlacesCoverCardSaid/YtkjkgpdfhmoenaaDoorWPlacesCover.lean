/-
  The walk of the law PlacesCover.
-/
import Derived.Test.YtkjkgpdfhmoenaaDoorPlLaw
import Derived.Test.YtkjkgpdfhmoenaaDoorWithin
namespace Go.Proofs.YtkjkgpdfhmoenaaDoor.placesCover
open Go Go.RowKit Go.Proofs.YtkjkgpdfhmoenaaDoor.Kit Go.Proofs.YtkjkgpdfhmoenaaDoor.Seg Go.Proofs.YtkjkgpdfhmoenaaDoor.ItGo Go.Proofs.YtkjkgpdfhmoenaaDoor.Dt Go.Proofs.YtkjkgpdfhmoenaaDoor.MoNew Go.Proofs.YtkjkgpdfhmoenaaDoor.Keep Go.Proofs.YtkjkgpdfhmoenaaDoor.EncLaw Go.Proofs.YtkjkgpdfhmoenaaDoor.EncGo Go.Proofs.YtkjkgpdfhmoenaaDoor.BpeGo Go.Proofs.YtkjkgpdfhmoenaaDoor.Few Go.Proofs.YtkjkgpdfhmoenaaDoor.PlGo Go.Proofs.YtkjkgpdfhmoenaaDoor.PlKnown Go.Proofs.YtkjkgpdfhmoenaaDoor.PlLaw Go.Proofs.YtkjkgpdfhmoenaaDoor.Within Go.Proofs.YtkjkgpdfhmoenaaDoor.Good
attribute [local irreducible] wpQuiet

set_option maxHeartbeats 4000000 in
set_option maxRecDepth 100000 in
theorem walk (D : Dt) (Q : Pl) (n : Int) (s : ByteArray) (w : World) (hd : At w D Q) (hn : -9223372036854775808 ≤ n ∧ n ≤ 9223372036854775807) (_hs : s.size ≤ 140737488355328) (hT : Tabs w) :
    Calls Tryd.prog 8 #[.agg #[.slice Q.a0 D.nw Q.c0, .slice Q.a1 D.nm Q.c1, .slice Q.a2 D.n0 Q.c2, .slice Q.a3 D.n1 Q.c3, .slice Q.a4 D.n2 Q.c4], .int .i64 n, .string s] w fun e w' => e = .returned (.bool true) ∧ Below w.heap.size w w' := by
  have HA := Lib.hid hd
  have HT := Lib.hid hT
  clear hd hT
  obtain ⟨fs, hfs⟩ : ∃ z, few s 300 = z := ⟨_, rfl⟩
  have hf1 := few_size s 300
  have HF := Lib.hid (fun w => few_calls s 300 w (by decide))
  rw [hfs] at HF hf1
  have hfz : fs.size ≤ 300 := hf1.1
  clear hfs hf1
  obtain ⟨W1, hW1⟩ : ∃ Xz, w.alloc (.cells #[.slice Q.a0 D.nw Q.c0, .slice Q.a1 D.nm Q.c1, .slice Q.a2 D.n0 Q.c2, .slice Q.a3 D.n1 Q.c3, .slice Q.a4 D.n2 Q.c4] 26) = Xz := ⟨_, rfl⟩
  obtain ⟨bd, hbd⟩ : ∃ xz, w.heap.size = xz := ⟨_, rfl⟩
  have hb1 : Below w.heap.size w W1 := by rw [← hW1]; exact (Below.refl _ _).alloc (Nat.le_refl _) _
  have HX := Lib.hid (by rw [← hW1, ← hbd]; exact alloc_new rfl : W1.heap[bd]? = some (.cells #[.slice Q.a0 D.nw Q.c0, .slice Q.a1 D.nm Q.c1, .slice Q.a2 D.n0 Q.c2, .slice Q.a3 D.n1 Q.c3, .slice Q.a4 D.n2 Q.c4] 26 (0, 0)))
  have EW1 := Lib.hid hW1
  have Ebd := Lib.hid hbd
  clear hW1 hbd
  have HB := Lib.hid hb1
  have HA := Lib.hid (HA.out.below hb1)
  have HO := Lib.hid (Of_calls D Q W1 HA.out)
  clear hb1
  have x0 := cell_at HX.out 0
  have x1 := cell_at HX.out 1
  have x2 := cell_at HX.out 2
  have x3 := cell_at HX.out 3
  have x4 := cell_at HX.out 4
  have xz := lt_of_heap HX.out
  simp only [List.getElem?_toArray, List.getElem?_cons_zero, List.getElem?_cons_succ] at x0 x1 x2 x3 x4
  go_enter Tryd.func8, Tryd.ntmps8
  go_upto_region 1 with fail
  rw [EW1.out, Ebd.out]
  go_wp2_with fail
  refine HO.out.mono ?_
  clear x0 x1 x2 x3 x4 xz
  rintro e W2 (⟨rfl, hb2⟩ | ⟨mb, rfl, hM, _, hb2, _⟩)
  · have HB := Lib.hid (chain HB.out hb2)
    clear hb2
    go_wp2_with fail
    refine (known_calls W2 (HT.out.below HB.out)).mono ?_
    rintro e W3 ⟨rfl, hb3⟩
    have HB := Lib.hid (chain HB.out hb3)
    clear hb3
    go_wp2_with fail
    go_ret
    exact ⟨rfl, HB.out⟩
  have HM := Lib.hid hM
  have HG := Lib.hid (Good.of_mod hM)
  have HB := Lib.hid (chain HB.out hb2)
  clear hM hb2
  go_wp2_with fail
  refine (HF.out W2).mono ?_
  rintro e w' ⟨rfl, rfl⟩
  go_wp2_with fail
  obtain ⟨mo, hmo, mo1, mo2⟩ : ∃ z : Nat, (1 : Int) + n % ((100 : Int) - 1 + 1) = (z : Int) ∧ 1 ≤ z ∧ z ≤ 100 := by
    have q1 := Int.emod_nonneg n (b := (100 : Int) - 1 + 1) (by decide)
    have q2 := Int.emod_lt_of_pos n (b := (100 : Int) - 1 + 1) (by decide)
    exact ⟨((1 : Int) + n % ((100 : Int) - 1 + 1)).toNat, by omega, by omega, by omega⟩
  refine (Within_calls n 1 100 W2 (by decide) (by decide) (by decide) (by omega) (by omega)).mono ?_
  rw [hmo]
  rintro e wz ⟨rfl, rfl⟩
  clear hmo
  have hoc := Of_calls D mb mo fs W2 HM.out (HT.out.below HB.out) mo1 (by omega) (by omega)
  obtain ⟨R, hpre⟩ := cat_pre HG.out mo fs.data.toList
  have hec := encode_cat HG.out mo fs.data.toList
  obtain ⟨E, hE⟩ : ∃ E, encode D mo fs.data.toList = E := ⟨_, rfl⟩
  rw [hE] at hoc hpre hec
  obtain ⟨l, o⟩ := E
  simp only at hpre hec
  have hin := hec.1
  have hle := hec.2.1
  rw [size_list] at hle
  unfold Placed at hoc
  simp only at hoc
  obtain ⟨st, hst⟩ : ∃ z, stOf o = z := ⟨_, rfl⟩
  rw [hst] at hoc
  have hpl := pcs_len D (nums fs.data.toList) l l.length
  have hcl : (cat D l).length ≤ fs.size := by
    have := congrArg List.length hpre
    rw [size_list, List.length_append] at this
    omega
  have HRISE := Lib.hid (fun i j (h : i ≤ j) (hj : j < fs.size) => nums_rise fs.data.toList h (by rw [size_list]; exact hj))
  have HNA := Lib.hid (fun i => nums_at fs.data.toList i)
  have HWA := Lib.hid (fun k (hk : k < l.length) => word_at hpre hk)
  have HIN := Lib.hid (show ∀ k, k < l.length → isId D (l.getD k 0) from fun k hk => by
    rw [List.getD_eq_getElem?_getD, List.getElem?_eq_getElem hk]
    exact hin _ (List.getElem_mem hk))
  have HOC := Lib.hid hoc
  clear hoc hE hec hin hst hpre
  go_wp2_with fail
  refine HOC.out.mono ?_
  rintro e W3 ⟨v, rfl, hr, hb3⟩
  obtain ⟨a, cap, rfl, hcap, hpr⟩ := PcRow.pr hr
  rw [hpl] at hpr hcap ⊢
  obtain ⟨F, hF⟩ : ∃ F : Nat → Pc, (fun i => (pcs D (nums fs.data.toList) l l.length).getD i default) = F := ⟨_, rfl⟩
  rw [hF] at hpr
  have HFA := Lib.hid (show ∀ i, i < l.length → F i = pcAt D (nums fs.data.toList) l i from fun i hi => by rw [← hF]; exact pcs_at D _ l hi)
  have HPR := Lib.hid hpr
  have HB := Lib.hid (chain HB.out hb3)
  have HM := Lib.hid (HM.out.below hb3)
  obtain ⟨N, hN⟩ : ∃ N, nums fs.data.toList = N := ⟨_, rfl⟩
  rw [hN] at HFA HRISE HNA
  clear hr hF hpr hb3 HOC hN hpl
  go_wp2_with fail
  go_loopg [13, 14, 15] l.length (fun g s13 s14 s15 wr => ∃ (k : Nat) (itm : Int), k ≤ l.length ∧ g = l.length - k ∧ s13 = .int .i64 (pos D l k) ∧ s14 = .int .i64 itm ∧ s15 = .int .i64 k ∧ itm = (if k = 0 then 0 else N.getD (pos D l k - 1) 0) ∧ Below w.heap.size w wr ∧ Below W3.heap.size W3 wr)
  case atStart => exact ⟨0, 0, Nat.zero_le _, by omega, rfl, rfl, rfl, rfl, HB.out, Below.refl _ _⟩
  case round =>
    obtain ⟨k, itm, hk, hg, rfl, rfl, rfl, hitm, hbw, hb3⟩ := hrel
    have HG2 := Lib.hid hg
    have HB := Lib.hid hbw
    have HB3 := Lib.hid hb3
    clear hg hbw
    by_cases hlt : k < l.length
    · obtain ⟨g, o', rfl, hgl, hc⟩ : ∃ g o, a = some ⟨g, o, none⟩ ∧ g < wr.heap.size ∧ ∀ i, i < l.length → _ := (HPR.out.below hb3).resolve_left (by omega)
      obtain ⟨c0, c1, c2, c3, c4⟩ := hc k hlt
      rw [HFA.out k hlt] at c0 c1 c2 c3 c4
      unfold pcAt at c0 c1 c2 c3 c4
      simp only at c0 c1 c2 c3 c4
      obtain ⟨id, hid⟩ : ∃ z, l.getD k 0 = z := ⟨_, rfl⟩
      have hisd := HIN.out k hlt
      have hwa := HWA.out k hlt
      have hps := pos_succ (D := D) hlt
      have hpe := pos_le D l (k + 1)
      rw [hid] at c0 hisd hps hwa
      have hidr : -9223372036854775808 ≤ id ∧ id ≤ 9223372036854775807 := by have := HM.out.nw; unfold isId at hisd; omega
      have hd : decide (isId D id) = true := decide_eq_true hisd
      have hpos := Good.word_pos HG.out hisd
      obtain ⟨z, hz⟩ : ∃ z, word D id = z := ⟨_, rfl⟩
      rw [hz] at hpos hps hwa
      obtain ⟨p0, hp0⟩ : ∃ p, pos D l k = p := ⟨_, rfl⟩
      obtain ⟨p1, hp1⟩ : ∃ p, pos D l (k + 1) = p := ⟨_, rfl⟩
      rw [hp0, hp1] at hps
      rw [hp0] at c1 c3
      rw [hp1] at c2 c4 hpe
      rw [hp0] at hitm hwa ⊢
      obtain ⟨f0, hf0⟩ : ∃ z, N.getD p0 0 = z := ⟨_, rfl⟩
      obtain ⟨f1, hf1⟩ : ∃ z, N.getD (p1 - 1) 0 = z := ⟨_, rfl⟩
      have hi1 : itm ≤ f0 := by
        rw [hitm, ← hf0]
        split
        · exact (HNA.out p0).1
        · exact HRISE.out (p0 - 1) p0 (by omega) (by omega)
      have hi2 : f0 ≤ f1 := by rw [← hf0, ← hf1]; exact HRISE.out p0 (p1 - 1) (by omega) (by omega)
      have hn1 := HNA.out (p1 - 1)
      rw [hf1, size_list] at hn1
      rw [hf0] at c3
      rw [hf1] at c4
      have hex : fs.extract p0 p1 = z := by
        refine ByteArray.ext (Array.toList_inj.1 ?_)
        rw [ByteArray.data_extract, Array.toList_extract, List.extract_eq_take_drop, ← hwa, hps, Nat.add_sub_cancel_left]
      have hsx := fun W : World => Go.run_slice_string (P := Tryd.prog) W 9 fs .i64 .i64 (p0 : Int) (p1 : Int) Tryd.underlying9 (by omega) (by omega) (by omega)
      simp only [Int.toNat_natCast, hex] at hsx
      have HFX := Lib.hid (fun (b : Int) (h1 : (p0 : Int) ≤ b) (h2 : b < p1) => first_at HFA.out hlt (b := b) (by rw [hp0]; exact h1) (by rw [hp1]; exact h2))
      have HID := Lib.hid hid
      have HZ := Lib.hid hz
      have HP1 := Lib.hid hp1
      have HF1 := Lib.hid hf1
      have i1 : (k : Int) < l.length := by omega
      have i2 : (0 : Int) ≤ k := by omega
      have t1 : ¬ ((fs.size : Int) < p1) := by omega
      have t2 : ¬ ((p1 : Int) < p0) := by omega
      have t3 : ¬ (f0 < itm) := by omega
      have t4 : ¬ (f1 + 1 ≤ f0) := by omega
      have t1n : ¬ (fs.size < p1) := by omega
      have t2n : ¬ (p1 < p0) := by omega
      have hp01 : p0 ≤ p1 := by omega
      have HPS := Lib.hid hps
      clear hc hid hz hp0 hp1 hf0 hf1 hisd hwa hitm hps hex
      go_wp2_with fail
      refine (Word_mod (HM.out.below hb3) id hidr).mono ?_
      rintro e W6 ⟨rfl, hb⟩
      rw [HZ.out, hd]
      have HB6 := Lib.hid (chain HB.out hb)
      have HB36 := Lib.hid (chain HB3.out hb)
      have u1 := (World.cell?_of_block (a := ⟨g, o' + k * 5 + 1, none⟩) (hb.block g hgl)).trans c1
      have u2 := (World.cell?_of_block (a := ⟨g, o' + k * 5 + 2, none⟩) (hb.block g hgl)).trans c2
      have u3 := (World.cell?_of_block (a := ⟨g, o' + k * 5 + 3, none⟩) (hb.block g hgl)).trans c3
      have u4 := (World.cell?_of_block (a := ⟨g, o' + k * 5 + 4, none⟩) (hb.block g hgl)).trans c4
      have uz : g < W6.heap.size := by have := hb.size; omega
      clear hb hb3 c0 c1 c2 c3 c4 hgl
      go_wp2_with fail
      simp only [List.append]
      refine region_tail 70 (by kernel_rfl) (by kernel_rfl) ?_
      simp only [List.take_succ_cons, List.take_zero, List.drop_succ_cons, List.drop_zero]
      repeat (first | still_step)
      refine wpStill_nil ?_
      go_wp2_with fail
      go_loopg [18] (p1 - p0) (fun gq s18 wr => ∃ b : Nat, p0 ≤ b ∧ b ≤ p1 ∧ gq = p1 - b ∧ s18 = .int .i64 b ∧ Below W6.heap.size W6 wr)
      case atStart => exact ⟨p0, Nat.le_refl _, hp01, rfl, rfl, (Below.refl _ _).drew⟩
      case round =>
        obtain ⟨b, hb0, hb1, hg, rfl, hbw⟩ := hrel
        have HGB := Lib.hid hg
        have HBW := Lib.hid hbw
        have x2 := (World.cell?_of_block (a := ⟨g, o' + k * 5 + 2, none⟩) (hbw.block g uz)).trans u2
        have x4 := (World.cell?_of_block (a := ⟨g, o' + k * 5 + 4, none⟩) (hbw.block g uz)).trans u4
        have xz : g < wr.heap.size := by have := hbw.size; omega
        clear hg hbw u1 u2 u3 u4
        by_cases hbl : b < p1
        · have e2 : IntKind.i64.wrap ((b : Int) + 1) = ((b + 1 : Nat) : Int) := by rw [i64w _ (by omega) (by omega)]; omega
          have hbi : (b : Int) < p1 := by omega
          have HAT := Lib.hid (At_calls (some ⟨g, o', none⟩) l.length cap F (b : Int) (k : Int) wr (HPR.out.below (chain HB36.out HBW.out)) (by omega) (HFX.out b (by omega) hbi))
          have ek : ((k : Int) != (k : Int)) = false := by simp
          go_wp2_with fail
          refine HAT.out.mono ?_
          rintro e W7 ⟨rfl, hb7⟩
          have HBW := Lib.hid (chain HBW.out hb7)
          clear hb7
          go_wp2_with fail
          go_roundg (p1 - (b + 1))
          case measure => have := HGB.out; omega
          case rel => exact ⟨b + 1, by omega, by omega, rfl, by go_num, HBW.out⟩
        · have hbe : b = p1 := by omega
          subst hbe
          have hbi : ¬ ((b : Int) < b) := by omega
          have e2 : IntKind.i64.wrap (f1 + 1 - 1) = f1 := by rw [Int.add_sub_cancel]; exact i64w _ (by omega) (by omega)
          have e3 : IntKind.i64.wrap ((k : Int) + 1) = ((k + 1 : Nat) : Int) := by rw [i64w _ (by omega) (by omega)]; omega
          go_wp2_with fail
          go_roundg (l.length - (k + 1))
          case measure => have := HG2.out; omega
          case rel => exact ⟨k + 1, f1, by omega, rfl, by rw [HP1.out], by go_num, by go_num, by rw [if_neg (by omega), HP1.out, HF1.out], chain HB6.out HBW.out, chain HB36.out HBW.out⟩
    · have hkl : k = l.length := by omega
      subst hkl
      have hi : ¬ ((l.length : Int) < l.length) := by omega
      have HAT := Lib.hid (At_calls a l.length cap F (pos D l l.length : Int) (-1) wr (HPR.out.below hb3) (by omega) (first_none HFA.out (.inr (Int.le_refl _))))
      clear hitm hb3
      obtain ⟨pe, hpe⟩ : ∃ z, pos D l l.length = z := ⟨_, rfl⟩
      rw [hpe] at HAT ⊢
      clear hpe
      go_wp2_with fail
      refine HAT.out.mono ?_
      rintro e W7 ⟨rfl, hb7⟩
      have HB := Lib.hid (chain HB.out hb7)
      have HAT2 := Lib.hid (At_calls a l.length cap F (-1) (-1) W7 (HPR.out.below (chain HB3.out hb7)) (by omega) (first_none HFA.out (.inl (by decide))))
      clear hb7
      go_wp2_with fail
      refine HAT2.out.mono ?_
      rintro e W8 ⟨rfl, hb8⟩
      have HB := Lib.hid (chain HB.out hb8)
      clear hb8
      go_wp2_with fail
      refine (known_calls W8 (HT.out.below HB.out)).mono ?_
      rintro e Wz ⟨rfl, hbz⟩
      have HB := Lib.hid (chain HB.out hbz)
      clear hbz
      go_wp2_with fail
      go_ret
      exact ⟨rfl, HB.out⟩
end Go.Proofs.YtkjkgpdfhmoenaaDoor.placesCover
