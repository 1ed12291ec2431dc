/-
  The walk of the law EncodeGrows.
-/
import Derived.Test.YtkjkgpdfhmoenaaDoorEncKnown
import Derived.Test.YtkjkgpdfhmoenaaDoorWithin
namespace Go.Proofs.YtkjkgpdfhmoenaaDoor.encodeGrows
open Go Go.RowKit Go.Proofs.YtkjkgpdfhmoenaaDoor.Kit Go.Proofs.YtkjkgpdfhmoenaaDoor.Seg Go.Proofs.YtkjkgpdfhmoenaaDoor.ItGo Go.Proofs.YtkjkgpdfhmoenaaDoor.Dt Go.Proofs.YtkjkgpdfhmoenaaDoor.MoNew Go.Proofs.YtkjkgpdfhmoenaaDoor.Keep Go.Proofs.YtkjkgpdfhmoenaaDoor.Cu Go.Proofs.YtkjkgpdfhmoenaaDoor.CutAll Go.Proofs.YtkjkgpdfhmoenaaDoor.CutTokens Go.Proofs.YtkjkgpdfhmoenaaDoor.EncLaw Go.Proofs.YtkjkgpdfhmoenaaDoor.EncGo Go.Proofs.YtkjkgpdfhmoenaaDoor.BpeGo Go.Proofs.YtkjkgpdfhmoenaaDoor.Few Go.Proofs.YtkjkgpdfhmoenaaDoor.EncKnown Go.Proofs.YtkjkgpdfhmoenaaDoor.Within Go.Proofs.YtkjkgpdfhmoenaaDoor.Good
attribute [local irreducible] wpQuiet

theorem getD_app {A R : List Int} {i : Nat} (h : i < A.length) : (A ++ R).getD i 0 = A.getD i 0 := by
  rw [List.getD_eq_getElem?_getD, List.getElem?_append_left h, ← List.getD_eq_getElem?_getD]

set_option maxHeartbeats 4000000 in
set_option maxRecDepth 100000 in
theorem walk (D : Dt) (Q : Pl) (n n2 : Int) (s : ByteArray) (w : World) (hd : At w D Q) (hn : -9223372036854775808 ≤ n ∧ n ≤ 9223372036854775807) (hn2 : -9223372036854775808 ≤ n2 ∧ n2 ≤ 9223372036854775807) (_hs : s.size ≤ 140737488355328) (hT : Tabs w) :
    Calls Tryd.prog 4 #[.agg #[.slice Q.a0 D.nw Q.c0, .slice Q.a1 D.nm Q.c1, .slice Q.a2 D.n0 Q.c2, .slice Q.a3 D.n1 Q.c3, .slice Q.a4 D.n2 Q.c4], .int .i64 n, .int .i64 n2, .string s] w fun e w' => e = .returned (.bool true) ∧ Below w.heap.size w w' := by
  have HA := Lib.hid hd
  have HT := Lib.hid hT
  clear hd hT
  obtain ⟨fs, hfs⟩ : ∃ z, few s 1000 = z := ⟨_, rfl⟩
  have hf1 := few_size s 1000
  have HF := Lib.hid (fun w => few_calls s 1000 w (by decide))
  rw [hfs] at HF hf1
  have hfz : fs.size ≤ 1000 := hf1.1
  clear hfs hf1
  obtain ⟨W1, hW1⟩ : ∃ Xz, w.alloc (.cells #[.slice Q.a0 D.nw Q.c0, .slice Q.a1 D.nm Q.c1, .slice Q.a2 D.n0 Q.c2, .slice Q.a3 D.n1 Q.c3, .slice Q.a4 D.n2 Q.c4] 26) = Xz := ⟨_, rfl⟩
  obtain ⟨bd, hbd⟩ : ∃ xz, w.heap.size = xz := ⟨_, rfl⟩
  have hb1 : Below w.heap.size w W1 := by rw [← hW1]; exact (Below.refl _ _).alloc (Nat.le_refl _) _
  have HX := Lib.hid (by rw [← hW1, ← hbd]; exact alloc_new rfl : W1.heap[bd]? = some (.cells #[.slice Q.a0 D.nw Q.c0, .slice Q.a1 D.nm Q.c1, .slice Q.a2 D.n0 Q.c2, .slice Q.a3 D.n1 Q.c3, .slice Q.a4 D.n2 Q.c4] 26 (0, 0)))
  have EW1 := Lib.hid hW1
  have Ebd := Lib.hid hbd
  clear hW1 hbd
  have HB := Lib.hid hb1
  have HA := Lib.hid (HA.out.below hb1)
  have HO := Lib.hid (Of_calls D Q W1 HA.out)
  clear hb1
  have x0 := cell_at HX.out 0
  have x1 := cell_at HX.out 1
  have x2 := cell_at HX.out 2
  have x3 := cell_at HX.out 3
  have x4 := cell_at HX.out 4
  have xz := lt_of_heap HX.out
  simp only [List.getElem?_toArray, List.getElem?_cons_zero, List.getElem?_cons_succ] at x0 x1 x2 x3 x4
  go_enter Tryd.func4, Tryd.ntmps4
  go_upto_region 1 with fail
  rw [EW1.out, Ebd.out]
  go_wp2_with fail
  refine HO.out.mono ?_
  clear x0 x1 x2 x3 x4 xz
  rintro e W2 (⟨rfl, hb2⟩ | ⟨mb, rfl, hM, _, hb2, _⟩)
  · have HB := Lib.hid (chain HB.out hb2)
    clear hb2
    go_wp2_with fail
    refine (known_calls W2 (HT.out.below HB.out)).mono ?_
    rintro e W3 ⟨rfl, hb3⟩
    have HB := Lib.hid (chain HB.out hb3)
    clear hb3
    go_wp2_with fail
    go_ret
    exact ⟨rfl, HB.out⟩
  have HM := Lib.hid hM
  have HG := Lib.hid (Good.of_mod hM)
  have HB := Lib.hid (chain HB.out hb2)
  clear hM hb2
  go_wp2_with fail
  obtain ⟨mo, hmo, mo1, mo2⟩ : ∃ z : Nat, (1 : Int) + n % ((50 : Int) - 1 + 1) = (z : Int) ∧ 1 ≤ z ∧ z ≤ 50 := by
    have q1 := Int.emod_nonneg n (b := (50 : Int) - 1 + 1) (by decide)
    have q2 := Int.emod_lt_of_pos n (b := (50 : Int) - 1 + 1) (by decide)
    exact ⟨((1 : Int) + n % ((50 : Int) - 1 + 1)).toNat, by omega, by omega, by omega⟩
  refine (Within_calls n 1 50 W2 (by decide) (by decide) (by decide) (by omega) (by omega)).mono ?_
  rw [hmo]
  rintro e wz ⟨rfl, rfl⟩
  clear hmo
  go_wp2_with fail
  obtain ⟨mr, hmr, mr1, mr2⟩ : ∃ z : Nat, (0 : Int) + n2 % ((1000 : Int) - 0 + 1) = (z : Int) ∧ 0 ≤ z ∧ z ≤ 1000 := by
    have q1 := Int.emod_nonneg n2 (b := (1000 : Int) - 0 + 1) (by decide)
    have q2 := Int.emod_lt_of_pos n2 (b := (1000 : Int) - 0 + 1) (by decide)
    exact ⟨((0 : Int) + n2 % ((1000 : Int) - 0 + 1)).toNat, by omega, by omega, by omega⟩
  refine (Within_calls n2 0 1000 W2 (by decide) (by decide) (by decide) (by omega) (by omega)).mono ?_
  rw [hmr]
  rintro e wz ⟨rfl, rfl⟩
  clear hmr
  go_wp2_with fail
  refine (HF.out W2).mono ?_
  rintro e w' ⟨rfl, rfl⟩
  go_wp2_with fail
  refine (Encode_calls D mb mo fs W2 HM.out (HT.out.below HB.out) mo1 (by omega) (by omega)).mono ?_
  rintro e W3 ⟨v, rfl, hr, hb3⟩
  have HB := Lib.hid (chain HB.out hb3)
  have HM := Lib.hid (HM.out.below hb3)
  obtain ⟨a, ca, rfl, hca, hra⟩ := NRow.row hr
  have hwa : IntKind.i64.wrap ((mo : Int) + mr) = ((mo + mr : Nat) : Int) := by rw [i64w _ (by omega) (by omega)]; omega
  have HRA := Lib.hid hra
  clear hr hra hb3
  go_wp2_with fail
  refine (Encode_calls D mb (mo + mr) fs W3 HM.out (HT.out.below HB.out) (by omega) (by omega) (by omega)).mono ?_
  rintro e W4 ⟨v, rfl, hr, hb4⟩
  have HB := Lib.hid (chain HB.out hb4)
  have HM := Lib.hid (HM.out.below hb4)
  have HRA := Lib.hid (HRA.out.below hb4)
  obtain ⟨b, cb, rfl, hcb, hrb⟩ := NRow.row hr
  have HRB := Lib.hid hrb
  clear hr hrb hb4 hwa
  go_wp2_with fail
  refine (Tokens_calls D mb fs W4 HM.out (HT.out.below HB.out) (by omega)).mono ?_
  rintro e W5 ⟨v, rfl, hrow, hb5⟩
  have HB := Lib.hid (chain HB.out hb5)
  have HRA := Lib.hid (HRA.out.below hb5)
  have HRB := Lib.hid (HRB.out.below hb5)
  obtain ⟨av, cv, rfl, hcv, hcells⟩ := hrow.shape
  have hlen := toks_len D HG.out fs.data.toList 0
  have hlink := toks_link D fs.data.toList.length fs.data.toList 0 (Nat.le_refl _)
  rw [Nat.zero_add, size_list] at hlink
  rw [size_list] at hlen
  obtain ⟨R, g1, g2⟩ := enc_grows D (show mo ≤ mo + mr by omega) fs.data.toList (toks D 0 fs.data.toList)
  have g3 := enc_over D mo fs.data.toList (toks D 0 fs.data.toList)
  have hea := (encode_cat HG.out mo fs.data.toList).2.1
  have heb := (encode_cat HG.out (mo + mr) fs.data.toList).2.1
  rw [size_list] at hea heb
  unfold encode at *
  obtain ⟨T, hTT⟩ : ∃ T, toks D 0 fs.data.toList = T := ⟨_, rfl⟩
  rw [hTT] at hcells hcv hlen hlink g1 g2 g3 hea heb hca hcb HRA HRB ⊢
  have HCE := Lib.hid hcells
  have HLK := Lib.hid hlink
  clear hrow hcells hTT hlink
  obtain ⟨⟨A, o1⟩, hE1⟩ : ∃ E, enc D mo fs.data.toList T = E := ⟨_, rfl⟩
  obtain ⟨⟨B, o2⟩, hE2⟩ : ∃ E, enc D (mo + mr) fs.data.toList T = E := ⟨_, rfl⟩
  rw [hE1] at g1 g2 g3 hea hca HRA ⊢
  rw [hE2] at g1 g2 heb hcb HRB ⊢
  simp only at g1 g2 g3 hea heb hca hcb HRA HRB ⊢
  subst g1
  have HG3 := Lib.hid g3
  have HS := Lib.hid (SameInt.Same_calls a b A.length ca cb _ W5 HRA.out ((HRB.out.mono (by simp)).cong (fun i hi => getD_app hi)) (by omega))
  rw [List.length_append] at hcb heb
  have j1 : ¬ (((A ++ R).length : Nat) : Int) < A.length := by rw [List.length_append]; omega
  have j2 : (A.length : Int) ≤ cb := by omega
  have j1n : ¬ ((A ++ R).length < A.length) := by rw [List.length_append]; omega
  have j4 : ¬ (A.length + R.length < A.length) := by omega
  have j3 : (0 : Int) ≤ A.length := by omega
  clear hE1 hE2 g3 HRA HRB
  cases o1 with
  | none =>
    obtain ⟨rfl, rfl⟩ := g2 rfl
    rw [List.append_nil] at *
    unfold stOf
    simp only
    go_wp2_with fail
    refine HS.out.mono ?_
    rintro e W6 ⟨rfl, hb6⟩
    have HB := Lib.hid (chain HB.out hb6)
    have HB55 := Lib.hid hb6
    clear hb6 HS
    go_wp2_with fail
    have HNO := Lib.hid (HG3.out.1 (by first | rfl | trivial))
    go_loopg [20] T.length (fun g s20 wr => ∃ k : Nat, k ≤ T.length ∧ g = T.length - k ∧ s20 = .int .i64 k ∧ Below w.heap.size w wr ∧ Below W5.heap.size W5 wr ∧ ∀ t ∈ T.take k, ¬ mo < t.b - t.a)
    case atStart => exact ⟨0, Nat.zero_le _, by omega, rfl, HB.out, HB55.out, fun t ht => (by simp at ht)⟩
    case round =>
      obtain ⟨k, hk, hg, rfl, hbw, hb5, hm⟩ := hrel
      have HG := Lib.hid hg
      have HB := Lib.hid hbw
      have HB5 := Lib.hid hb5
      have HMM := Lib.hid hm
      clear hg hbw hm
      by_cases hlt : k < T.length
      · obtain ⟨g, o, rfl, _, hgl, hce⟩ := HCE.out k hlt
        obtain ⟨c1, c2, _⟩ := hce k hlt
        have d1 := (World.cell?_of_block (a := ⟨g, o + k * 3, none⟩) (hb5.block g hgl)).trans c1
        have d2 := (World.cell?_of_block (a := ⟨g, o + k * 3 + 1, none⟩) (hb5.block g hgl)).trans c2
        obtain ⟨x, hx⟩ : ∃ x, T.getD k default = x := ⟨_, rfl⟩
        have hxm : x ∈ T := by rw [← hx, List.getD_eq_getElem?_getD, List.getElem?_eq_getElem hlt]; exact List.getElem_mem hlt
        obtain ⟨t1, t2, t3⟩ := EncCount.Link.mem HLK.out x hxm
        rw [hx] at d1 d2
        have HX := Lib.hid hx
        have HXM := Lib.hid hxm
        have i1 : (k : Int) < T.length := by omega
        have i2 : (0 : Int) ≤ k := by omega
        have e3 : IntKind.i64.wrap ((x.b : Int) - x.a) = (x.b : Int) - x.a := i64w _ (by omega) (by omega)
        have hgl2 : g < wr.heap.size := by have := hb5.size; omega
        clear hce c1 c2 hb5 hx hxm
        by_cases hmx : (mo : Int) < (x.b : Int) - x.a
        · have hmd : decide ((mo : Int) < (x.b : Int) - x.a) = true := by simp [hmx]
          first
            | exact absurd (show mo < x.b - x.a by omega) (HNO.out x HXM.out)
            | go_upto_region 15 with fail
              refine region_tail 14 (by kernel_rfl) (by kernel_rfl) ?_
              simp only [List.take_succ_cons, List.take_zero, List.drop_succ_cons, List.drop_zero]
              repeat (first | still_step)
              refine wpStill_nil ?_
              go_wp2_with fail
              have HB := Lib.hid HB.out.drew
              refine (known_calls wr.drew (HT.out.below HB.out)).mono ?_
              rintro e Wz ⟨rfl, hbz⟩
              have HB := Lib.hid (chain HB.out hbz)
              clear hbz
              go_wp2_with fail
              go_ret
              exact ⟨rfl, HB.out⟩
        · have hmd : decide ((mo : Int) < (x.b : Int) - x.a) = false := by simp [hmx]
          have HML := Lib.hid (show ∀ t ∈ T.take (k + 1), ¬ mo < t.b - t.a from fun t ht => by
            rw [List.take_add_one, List.mem_append] at ht
            rcases ht with ht | ht
            · exact HMM.out t ht
            · rw [List.getElem?_eq_getElem hlt] at ht
              have h3 := HX.out
              rw [List.getD_eq_getElem?_getD, List.getElem?_eq_getElem hlt] at h3
              simp only [Option.toList_some, List.mem_singleton, Option.getD_some] at ht h3
              rw [ht, h3]
              omega)
          clear hmx
          go_upto_region 15 with fail
          refine region_tail 14 (by kernel_rfl) (by kernel_rfl) ?_
          simp only [List.take_succ_cons, List.take_zero, List.drop_succ_cons, List.drop_zero]
          repeat (first | still_step)
          refine wpStill_nil ?_
          go_wp2_with fail
          go_roundg (T.length - (k + 1))
          case measure => have := HG.out; omega
          case rel => exact ⟨k + 1, by omega, rfl, by go_num, HB.out.drew, HB5.out.drew, fun t ht => by have := HML.out t ht; omega⟩
      · have hkn : k = T.length := by omega
        subst hkn
        have hi : ¬ ((T.length : Int) < T.length) := by omega
        rw [List.take_length] at HMM
        go_wp2_with fail
        refine (known_calls wr (HT.out.below HB.out)).mono ?_
        rintro e Wz ⟨rfl, hbz⟩
        have HB := Lib.hid (chain HB.out hbz)
        clear hbz
        go_wp2_with fail
        go_ret
        exact ⟨rfl, HB.out⟩
  | some y =>
    obtain ⟨s2, hs2⟩ : ∃ z, stOf o2 = z := ⟨_, rfl⟩
    rw [hs2]
    clear hs2 g2
    unfold stOf
    simp only
    go_wp2_with fail
    refine HS.out.mono ?_
    rintro e W6 ⟨rfl, hb6⟩
    have HB := Lib.hid (chain HB.out hb6)
    have HB55 := Lib.hid hb6
    clear hb6 HS
    go_wp2_with fail
    go_loopg [20] T.length (fun g s20 wr => ∃ k : Nat, k ≤ T.length ∧ g = T.length - k ∧ s20 = .int .i64 k ∧ Below w.heap.size w wr ∧ Below W5.heap.size W5 wr ∧ ∀ t ∈ T.take k, ¬ mo < t.b - t.a)
    case atStart => exact ⟨0, Nat.zero_le _, by omega, rfl, HB.out, HB55.out, fun t ht => (by simp at ht)⟩
    case round =>
      obtain ⟨k, hk, hg, rfl, hbw, hb5, hm⟩ := hrel
      have HG := Lib.hid hg
      have HB := Lib.hid hbw
      have HB5 := Lib.hid hb5
      have HMM := Lib.hid hm
      clear hg hbw hm
      by_cases hlt : k < T.length
      · obtain ⟨g, o, rfl, _, hgl, hce⟩ := HCE.out k hlt
        obtain ⟨c1, c2, _⟩ := hce k hlt
        have d1 := (World.cell?_of_block (a := ⟨g, o + k * 3, none⟩) (hb5.block g hgl)).trans c1
        have d2 := (World.cell?_of_block (a := ⟨g, o + k * 3 + 1, none⟩) (hb5.block g hgl)).trans c2
        obtain ⟨x, hx⟩ : ∃ x, T.getD k default = x := ⟨_, rfl⟩
        have hxm : x ∈ T := by rw [← hx, List.getD_eq_getElem?_getD, List.getElem?_eq_getElem hlt]; exact List.getElem_mem hlt
        obtain ⟨t1, t2, t3⟩ := EncCount.Link.mem HLK.out x hxm
        rw [hx] at d1 d2
        have HX := Lib.hid hx
        have HXM := Lib.hid hxm
        have i1 : (k : Int) < T.length := by omega
        have i2 : (0 : Int) ≤ k := by omega
        have e3 : IntKind.i64.wrap ((x.b : Int) - x.a) = (x.b : Int) - x.a := i64w _ (by omega) (by omega)
        have hgl2 : g < wr.heap.size := by have := hb5.size; omega
        clear hce c1 c2 hb5 hx hxm
        by_cases hmx : (mo : Int) < (x.b : Int) - x.a
        · have hmd : decide ((mo : Int) < (x.b : Int) - x.a) = true := by simp [hmx]
          first
            | exact absurd (show mo < x.b - x.a by omega) (HNO.out x HXM.out)
            | go_upto_region 15 with fail
              refine region_tail 14 (by kernel_rfl) (by kernel_rfl) ?_
              simp only [List.take_succ_cons, List.take_zero, List.drop_succ_cons, List.drop_zero]
              repeat (first | still_step)
              refine wpStill_nil ?_
              go_wp2_with fail
              have HB := Lib.hid HB.out.drew
              refine (known_calls wr.drew (HT.out.below HB.out)).mono ?_
              rintro e Wz ⟨rfl, hbz⟩
              have HB := Lib.hid (chain HB.out hbz)
              clear hbz
              go_wp2_with fail
              go_ret
              exact ⟨rfl, HB.out⟩
        · have hmd : decide ((mo : Int) < (x.b : Int) - x.a) = false := by simp [hmx]
          have HML := Lib.hid (show ∀ t ∈ T.take (k + 1), ¬ mo < t.b - t.a from fun t ht => by
            rw [List.take_add_one, List.mem_append] at ht
            rcases ht with ht | ht
            · exact HMM.out t ht
            · rw [List.getElem?_eq_getElem hlt] at ht
              have h3 := HX.out
              rw [List.getD_eq_getElem?_getD, List.getElem?_eq_getElem hlt] at h3
              simp only [Option.toList_some, List.mem_singleton, Option.getD_some] at ht h3
              rw [ht, h3]
              omega)
          clear hmx
          go_upto_region 15 with fail
          refine region_tail 14 (by kernel_rfl) (by kernel_rfl) ?_
          simp only [List.take_succ_cons, List.take_zero, List.drop_succ_cons, List.drop_zero]
          repeat (first | still_step)
          refine wpStill_nil ?_
          go_wp2_with fail
          go_roundg (T.length - (k + 1))
          case measure => have := HG.out; omega
          case rel => exact ⟨k + 1, by omega, rfl, by go_num, HB.out.drew, HB5.out.drew, fun t ht => by have := HML.out t ht; omega⟩
      · have hkn : k = T.length := by omega
        subst hkn
        have hi : ¬ ((T.length : Int) < T.length) := by omega
        rw [List.take_length] at HMM
        have := HG3.out.2 HMM.out
        cases this
end Go.Proofs.YtkjkgpdfhmoenaaDoor.encodeGrows
