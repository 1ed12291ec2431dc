/-
  The walk of the law EncodeCovers.
-/
import Derived.Test.YtkjkgpdfhmoenaaDoorEncKnown
import Derived.Test.YtkjkgpdfhmoenaaDoorWithin
namespace Go.Proofs.YtkjkgpdfhmoenaaDoor.encodeCovers
open Go Go.RowKit Go.Proofs.YtkjkgpdfhmoenaaDoor.Kit Go.Proofs.YtkjkgpdfhmoenaaDoor.Seg Go.Proofs.YtkjkgpdfhmoenaaDoor.ItGo Go.Proofs.YtkjkgpdfhmoenaaDoor.Dt Go.Proofs.YtkjkgpdfhmoenaaDoor.MoNew Go.Proofs.YtkjkgpdfhmoenaaDoor.Keep Go.Proofs.YtkjkgpdfhmoenaaDoor.EncLaw Go.Proofs.YtkjkgpdfhmoenaaDoor.EncGo Go.Proofs.YtkjkgpdfhmoenaaDoor.BpeGo Go.Proofs.YtkjkgpdfhmoenaaDoor.Few Go.Proofs.YtkjkgpdfhmoenaaDoor.EncKnown Go.Proofs.YtkjkgpdfhmoenaaDoor.Within Go.Proofs.YtkjkgpdfhmoenaaDoor.Good
attribute [local irreducible] wpQuiet

theorem cat_txt (D : Dt) (l : List Int) : ∀ k, k ≤ l.length → (txt D (fun i => l.getD i 0) k).data.toList = cat D (l.take k)
  | 0, _ => by simp [txt, cat]
  | k + 1, h => by
    have ih := cat_txt D l k (by omega)
    unfold txt
    rw [bytes_append, ih, List.take_add_one, List.getElem?_eq_getElem (by omega), cat_app, List.getD_eq_getElem?_getD, List.getElem?_eq_getElem (by omega)]
    simp [cat]

set_option maxHeartbeats 4000000 in
set_option maxRecDepth 100000 in
theorem walk (D : Dt) (Q : Pl) (n : Int) (s : ByteArray) (w : World) (hd : At w D Q) (hn : -9223372036854775808 ≤ n ∧ n ≤ 9223372036854775807) (_hs : s.size ≤ 140737488355328) (hT : Tabs w) :
    Calls Tryd.prog 3 #[.agg #[.slice Q.a0 D.nw Q.c0, .slice Q.a1 D.nm Q.c1, .slice Q.a2 D.n0 Q.c2, .slice Q.a3 D.n1 Q.c3, .slice Q.a4 D.n2 Q.c4], .int .i64 n, .string s] w fun e w' => e = .returned (.bool true) ∧ Below w.heap.size w w' := by
  have HA := Lib.hid hd
  have HT := Lib.hid hT
  clear hd hT
  obtain ⟨fs, hfs⟩ : ∃ z, few s 2000 = z := ⟨_, rfl⟩
  have hf1 := few_size s 2000
  have HF := Lib.hid (fun w => few_calls s 2000 w (by decide))
  rw [hfs] at HF hf1
  have hfz : fs.size ≤ 2000 := hf1.1
  clear hfs hf1
  obtain ⟨W1, hW1⟩ : ∃ Xz, w.alloc (.cells #[.slice Q.a0 D.nw Q.c0, .slice Q.a1 D.nm Q.c1, .slice Q.a2 D.n0 Q.c2, .slice Q.a3 D.n1 Q.c3, .slice Q.a4 D.n2 Q.c4] 26) = Xz := ⟨_, rfl⟩
  obtain ⟨bd, hbd⟩ : ∃ xz, w.heap.size = xz := ⟨_, rfl⟩
  have hb1 : Below w.heap.size w W1 := by rw [← hW1]; exact (Below.refl _ _).alloc (Nat.le_refl _) _
  have HX := Lib.hid (by rw [← hW1, ← hbd]; exact alloc_new rfl : W1.heap[bd]? = some (.cells #[.slice Q.a0 D.nw Q.c0, .slice Q.a1 D.nm Q.c1, .slice Q.a2 D.n0 Q.c2, .slice Q.a3 D.n1 Q.c3, .slice Q.a4 D.n2 Q.c4] 26 (0, 0)))
  have EW1 := Lib.hid hW1
  have Ebd := Lib.hid hbd
  clear hW1 hbd
  have HB := Lib.hid hb1
  have HA := Lib.hid (HA.out.below hb1)
  have HO := Lib.hid (Of_calls D Q W1 HA.out)
  clear hb1
  have x0 := cell_at HX.out 0
  have x1 := cell_at HX.out 1
  have x2 := cell_at HX.out 2
  have x3 := cell_at HX.out 3
  have x4 := cell_at HX.out 4
  have xz := lt_of_heap HX.out
  simp only [List.getElem?_toArray, List.getElem?_cons_zero, List.getElem?_cons_succ] at x0 x1 x2 x3 x4
  go_enter Tryd.func3, Tryd.ntmps3
  go_upto_region 1 with fail
  rw [EW1.out, Ebd.out]
  go_wp2_with fail
  refine HO.out.mono ?_
  clear x0 x1 x2 x3 x4 xz
  rintro e W2 (⟨rfl, hb2⟩ | ⟨mb, rfl, hM, _, hb2, _⟩)
  · have HB := Lib.hid (chain HB.out hb2)
    clear hb2
    go_wp2_with fail
    refine (known_calls W2 (HT.out.below HB.out)).mono ?_
    rintro e W3 ⟨rfl, hb3⟩
    have HB := Lib.hid (chain HB.out hb3)
    clear hb3
    go_wp2_with fail
    go_ret
    exact ⟨rfl, HB.out⟩
  have HM := Lib.hid hM
  have HG := Lib.hid (Good.of_mod hM)
  have HB := Lib.hid (chain HB.out hb2)
  clear hM hb2
  go_wp2_with fail
  obtain ⟨mo, hmo, mo1, mo2⟩ : ∃ z : Nat, (1 : Int) + n % ((100 : Int) - 1 + 1) = (z : Int) ∧ 1 ≤ z ∧ z ≤ 100 := by
    have q1 := Int.emod_nonneg n (b := (100 : Int) - 1 + 1) (by decide)
    have q2 := Int.emod_lt_of_pos n (b := (100 : Int) - 1 + 1) (by decide)
    exact ⟨((1 : Int) + n % ((100 : Int) - 1 + 1)).toNat, by omega, by omega, by omega⟩
  refine (Within_calls n 1 100 W2 (by decide) (by decide) (by decide) (by omega) (by omega)).mono ?_
  rw [hmo]
  rintro e wz ⟨rfl, rfl⟩
  clear hmo
  go_wp2_with fail
  refine (HF.out W2).mono ?_
  rintro e w' ⟨rfl, rfl⟩
  go_wp2_with fail
  refine (Encode_calls D mb mo fs W2 HM.out (HT.out.below HB.out) mo1 (by omega) (by omega)).mono ?_
  rintro e W3 ⟨v, rfl, hr, hb3⟩
  obtain ⟨a, cap, rfl, hcap, hrow⟩ := NRow.row hr
  have hec := encode_cat HG.out mo fs.data.toList
  have HO2 := Lib.hid (Over_calls D mb mo fs W3 (HM.out.below hb3) (HT.out.below (chain HB.out hb3)) mo1 (by omega) (by omega))
  have HB := Lib.hid (chain HB.out hb3)
  have HM := Lib.hid (HM.out.below hb3)
  obtain ⟨E, hE⟩ : ∃ E, encode D mo fs.data.toList = E := ⟨_, rfl⟩
  rw [hE] at hec hrow hcap HO2 ⊢
  obtain ⟨ids, ov⟩ := E
  simp only at hec hrow hcap HO2 ⊢
  obtain ⟨hin, hle, hcat⟩ := hec
  rw [size_list] at hle
  have hROW := hrow
  clear hE hr hrow hb3
  obtain ⟨F, hF⟩ : ∃ F : Nat → Int, (fun i => ids.getD i 0) = F := ⟨_, rfl⟩
  have hct := cat_txt D ids ids.length (Nat.le_refl _)
  rw [List.take_length] at hct
  have HIN := Lib.hid (show ∀ k, k < ids.length → isId D (F k) from fun k hk => by
    rw [← hF]
    show isId D (ids.getD k 0)
    rw [List.getD_eq_getElem?_getD, List.getElem?_eq_getElem hk]
    exact hin _ (List.getElem_mem hk))
  rw [hF] at hROW hct
  have HCT := Lib.hid hct
  have HCAT := Lib.hid hcat
  have HGD := HG
  clear hF hct hin hcat
  go_wp2_with fail
  refine HO2.out.mono ?_
  rintro e W4 ⟨rfl, hb4⟩
  have HROW := Lib.hid (hROW.below hb4)
  have HB := Lib.hid (chain HB.out hb4)
  have HM := Lib.hid (HM.out.below hb4)
  clear hROW hb4 HO2
  unfold overV
  obtain ⟨W5, hW5⟩ : ∃ Xz, W4.alloc (.cells #[.int .i64 (ovA ov), .int .i64 (ovB ov)] 39) = Xz := ⟨_, rfl⟩
  obtain ⟨pb, hpb⟩ : ∃ xz, W4.heap.size = xz := ⟨_, rfl⟩
  have hb5 : Below W4.heap.size W4 W5 := by rw [← hW5]; exact (Below.refl _ _).alloc (Nat.le_refl _) _
  have HP := Lib.hid (by rw [← hW5, ← hpb]; exact alloc_new rfl : W5.heap[pb]? = some (.cells #[.int .i64 (ovA ov), .int .i64 (ovB ov)] 39 (0, 0)))
  have EW5 := Lib.hid hW5
  have Epb := Lib.hid hpb
  clear hW5 hpb
  have HROW := Lib.hid (HROW.out.below hb5)
  have HB := Lib.hid (chain HB.out hb5)
  have HM := Lib.hid (HM.out.below hb5)
  clear hb5
  cases ov with
  | none =>
    have hcc := HCAT.out
    simp only at hcc
    have HEQ := Lib.hid (show txt D F ids.length = fs from by
      have := HCT.out
      rw [hcc.1] at this
      exact ByteArray.ext (Array.toList_inj.1 this))
    unfold stOf ovA ovB at *
    simp only [Option.isSome_none] at *
    clear hcc
    go_wp2_with fail
    rw [EW5.out, Epb.out]
    go_loopg [15, 16, 17, 18] ids.length (fun g s15 s16 s17 s18 wr => ∃ k : Nat, k ≤ ids.length ∧ g = ids.length - k ∧ s16 = .int .i64 k ∧ s15 = .string (txt D F k) ∧ Below w.heap.size w wr ∧ Below W5.heap.size W5 wr)
    case atStart => exact ⟨0, Nat.zero_le _, by omega, rfl, rfl, HB.out, Below.refl _ _⟩
    case round =>
      obtain ⟨k, hk, hg, rfl, rfl, hbw, hb5⟩ := hrel
      have HG := Lib.hid hg
      have HB := Lib.hid hbw
      have HB5 := Lib.hid hb5
      clear hg
      by_cases hlt : k < ids.length
      · obtain ⟨b, o, rfl, hbl, hc⟩ := (HROW.out.below hb5).at hlt
        have c0 := hc k hlt
        have hi : (k : Int) < ids.length := by omega
        have hid := HIN.out k hlt
        obtain ⟨id, hidd⟩ : ∃ id, F k = id := ⟨_, rfl⟩
        rw [hidd] at c0 hid
        have HID := Lib.hid hidd
        have hidr : -9223372036854775808 ≤ id ∧ id ≤ 9223372036854775807 := by have := HM.out.nw; unfold isId at hid; omega
        have hd : decide (isId D id) = true := decide_eq_true hid
        clear hc hidd hbw
        go_wp2_with fail
        refine (Word_mod (HM.out.below HB5.out) id hidr).mono ?_
        rintro e W6 ⟨rfl, hb⟩
        have HB := Lib.hid (chain HB.out hb)
        have HB5 := Lib.hid (chain HB5.out hb)
        clear hb c0 hbl hb5
        have HS := Lib.hid (show txt D F k ++ word D (F k) = txt D F (k + 1) from rfl)
        rw [HID.out] at HS
        have hw := HGD.out.word_le id
        have hz := txt_size HGD.out F k
        obtain ⟨s', hs'⟩ : ∃ s, word D id = s := ⟨_, rfl⟩
        obtain ⟨t, ht⟩ : ∃ t, txt D F k = t := ⟨_, rfl⟩
        rw [hs', ht] at HS
        rw [hs'] at hw ⊢
        rw [ht] at hz ⊢
        have hadd : ∀ w, (Op.stringOp .add t s').run Tryd.prog w = .ok (.string (t ++ s')) w := fun w => run_string_add_sum w t s' (by omega)
        clear hid hs' ht
        go_wp2_with fail
        rw [HS.out]
        go_roundg (ids.length - (k + 1))
        case measure => have := HG.out; omega
        case rel => exact ⟨k + 1, by omega, rfl, by go_num, rfl, HB.out, HB5.out⟩
      · have hkn : k = ids.length := by omega
        subst hkn
        rw [HEQ.out]
        have hi : ¬ ((ids.length : Int) < ids.length) := by omega
        clear hbw hb5
        go_wp2_with fail
        refine (known_calls wr (HT.out.below HB.out)).mono ?_
        rintro e Wz ⟨rfl, hbz⟩
        have HB := Lib.hid (chain HB.out hbz)
        clear hbz
        go_wp2_with fail
        go_ret
        exact ⟨rfl, HB.out⟩
  | some x =>
    have hcc := HCAT.out
    simp only at hcc
    obtain ⟨-, k2, k3, k4, k5⟩ := hcc
    rw [size_list] at k4
    have HEQ := Lib.hid (show txt D F ids.length = fs.extract 0 x.a from by
      have h5 := HCT.out
      rw [k5] at h5
      refine ByteArray.ext (Array.toList_inj.1 ?_)
      rw [h5, ByteArray.data_extract, Array.toList_extract, List.extract_eq_take_drop]
      simp)
    unfold stOf ovA ovB at *
    simp only [Option.isSome_some] at *
    have e1 : (0 : Int) ≤ x.a := by omega
    have e2 : (x.a : Int) ≤ fs.size := by omega
    have e3 : IntKind.i64.wrap ((x.b : Int) - x.a) = (x.b : Int) - x.a := i64w _ (by omega) (by omega)
    have e4 : (mo : Int) < (x.b : Int) - x.a := by omega
    have e5 : ¬ ((x.a : Int) < 0) := by omega
    have e6 : ¬ ((fs.size : Int) < x.a) := by omega
    clear k2 k3 k4 k5
    go_wp2_with fail
    rw [EW5.out, Epb.out]
    go_loopg [15, 16, 17, 18] ids.length (fun g s15 s16 s17 s18 wr => ∃ k : Nat, k ≤ ids.length ∧ g = ids.length - k ∧ s16 = .int .i64 k ∧ s15 = .string (txt D F k) ∧ Below w.heap.size w wr ∧ Below W5.heap.size W5 wr)
    case atStart => exact ⟨0, Nat.zero_le _, by omega, rfl, rfl, HB.out, Below.refl _ _⟩
    case round =>
      obtain ⟨k, hk, hg, rfl, rfl, hbw, hb5⟩ := hrel
      have HG := Lib.hid hg
      have HB := Lib.hid hbw
      have HB5 := Lib.hid hb5
      clear hg
      by_cases hlt : k < ids.length
      · obtain ⟨b, o, rfl, hbl, hc⟩ := (HROW.out.below hb5).at hlt
        have c0 := hc k hlt
        have hi : (k : Int) < ids.length := by omega
        have hid := HIN.out k hlt
        obtain ⟨id, hidd⟩ : ∃ id, F k = id := ⟨_, rfl⟩
        rw [hidd] at c0 hid
        have HID := Lib.hid hidd
        have hidr : -9223372036854775808 ≤ id ∧ id ≤ 9223372036854775807 := by have := HM.out.nw; unfold isId at hid; omega
        have hd : decide (isId D id) = true := decide_eq_true hid
        clear hc hidd hbw
        go_wp2_with fail
        refine (Word_mod (HM.out.below HB5.out) id hidr).mono ?_
        rintro e W6 ⟨rfl, hb⟩
        have HB := Lib.hid (chain HB.out hb)
        have HB5 := Lib.hid (chain HB5.out hb)
        clear hb c0 hbl hb5
        have HS := Lib.hid (show txt D F k ++ word D (F k) = txt D F (k + 1) from rfl)
        rw [HID.out] at HS
        have hw := HGD.out.word_le id
        have hz := txt_size HGD.out F k
        obtain ⟨s', hs'⟩ : ∃ s, word D id = s := ⟨_, rfl⟩
        obtain ⟨t, ht⟩ : ∃ t, txt D F k = t := ⟨_, rfl⟩
        rw [hs', ht] at HS
        rw [hs'] at hw ⊢
        rw [ht] at hz ⊢
        have hadd : ∀ w, (Op.stringOp .add t s').run Tryd.prog w = .ok (.string (t ++ s')) w := fun w => run_string_add_sum w t s' (by omega)
        clear hid hs' ht
        go_wp2_with fail
        rw [HS.out]
        go_roundg (ids.length - (k + 1))
        case measure => have := HG.out; omega
        case rel => exact ⟨k + 1, by omega, rfl, by go_num, rfl, HB.out, HB5.out⟩
      · have hkn : k = ids.length := by omega
        subst hkn
        rw [HEQ.out]
        have hi : ¬ ((ids.length : Int) < ids.length) := by omega
        clear hbw hb5
        have HP2 := Lib.hid ((HB5.out.block _ (lt_of_heap HP.out)).trans HP.out)
        have p0 := cell_at HP2.out 0
        have p1 := cell_at HP2.out 1
        have pz := lt_of_heap HP2.out
        simp only [List.getElem?_toArray, List.getElem?_cons_zero, List.getElem?_cons_succ] at p0 p1
        go_wp2_with fail
        refine (known_calls wr (HT.out.below HB.out)).mono ?_
        rintro e Wz ⟨rfl, hbz⟩
        have HB := Lib.hid (chain HB.out hbz)
        clear hbz
        go_wp2_with fail
        go_ret
        exact ⟨rfl, HB.out⟩
end Go.Proofs.YtkjkgpdfhmoenaaDoor.encodeCovers
