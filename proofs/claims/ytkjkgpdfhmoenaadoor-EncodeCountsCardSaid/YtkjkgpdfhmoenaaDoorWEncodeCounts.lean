/-
  The walk of the law EncodeCounts.
-/
import Derived.Test.YtkjkgpdfhmoenaaDoorEncKnown
namespace Go.Proofs.YtkjkgpdfhmoenaaDoor.encodeCounts
open Go Go.RowKit Go.Proofs.YtkjkgpdfhmoenaaDoor.Kit Go.Proofs.YtkjkgpdfhmoenaaDoor.Seg Go.Proofs.YtkjkgpdfhmoenaaDoor.ItGo Go.Proofs.YtkjkgpdfhmoenaaDoor.Dt Go.Proofs.YtkjkgpdfhmoenaaDoor.MoNew Go.Proofs.YtkjkgpdfhmoenaaDoor.Keep Go.Proofs.YtkjkgpdfhmoenaaDoor.Cu Go.Proofs.YtkjkgpdfhmoenaaDoor.CutAll Go.Proofs.YtkjkgpdfhmoenaaDoor.CutTokens Go.Proofs.YtkjkgpdfhmoenaaDoor.EncLaw Go.Proofs.YtkjkgpdfhmoenaaDoor.EncCount Go.Proofs.YtkjkgpdfhmoenaaDoor.EncGo Go.Proofs.YtkjkgpdfhmoenaaDoor.BpeGo Go.Proofs.YtkjkgpdfhmoenaaDoor.Few Go.Proofs.YtkjkgpdfhmoenaaDoor.EncKnown Go.Proofs.YtkjkgpdfhmoenaaDoor.Good
attribute [local irreducible] wpQuiet

theorem link_drop : ∀ (kk : Nat) {S : List Tk} {a n : Nat}, Link a S n → ∃ a0, Link a0 (S.drop kk) n
  | 0, _, a, _, h => ⟨a, h⟩
  | _ + 1, [], a, _, h => ⟨a, h⟩
  | kk + 1, _ :: _, _, _, h => link_drop kk h.2.2

set_option maxHeartbeats 4000000 in
set_option maxRecDepth 100000 in
theorem walk (D : Dt) (Q : Pl) (s : ByteArray) (w : World) (hd : At w D Q) (_hs : s.size ≤ 140737488355328) (hT : Tabs w) :
    Calls Tryd.prog 5 #[.agg #[.slice Q.a0 D.nw Q.c0, .slice Q.a1 D.nm Q.c1, .slice Q.a2 D.n0 Q.c2, .slice Q.a3 D.n1 Q.c3, .slice Q.a4 D.n2 Q.c4], .string s] w fun e w' => e = .returned (.bool true) ∧ Below w.heap.size w w' := by
  have HA := Lib.hid hd
  have HT := Lib.hid hT
  clear hd hT
  obtain ⟨fs, hfs⟩ : ∃ z, few s 2000 = z := ⟨_, rfl⟩
  have hf1 := few_size s 2000
  have HF := Lib.hid (fun w => few_calls s 2000 w (by decide))
  rw [hfs] at HF hf1
  have hfz : fs.size ≤ 2000 := hf1.1
  clear hfs hf1
  obtain ⟨W1, hW1⟩ : ∃ Xz, w.alloc (.cells #[.slice Q.a0 D.nw Q.c0, .slice Q.a1 D.nm Q.c1, .slice Q.a2 D.n0 Q.c2, .slice Q.a3 D.n1 Q.c3, .slice Q.a4 D.n2 Q.c4] 26) = Xz := ⟨_, rfl⟩
  obtain ⟨bd, hbd⟩ : ∃ xz, w.heap.size = xz := ⟨_, rfl⟩
  have hb1 : Below w.heap.size w W1 := by rw [← hW1]; exact (Below.refl _ _).alloc (Nat.le_refl _) _
  have HX := Lib.hid (by rw [← hW1, ← hbd]; exact alloc_new rfl : W1.heap[bd]? = some (.cells #[.slice Q.a0 D.nw Q.c0, .slice Q.a1 D.nm Q.c1, .slice Q.a2 D.n0 Q.c2, .slice Q.a3 D.n1 Q.c3, .slice Q.a4 D.n2 Q.c4] 26 (0, 0)))
  have EW1 := Lib.hid hW1
  have Ebd := Lib.hid hbd
  clear hW1 hbd
  have HB := Lib.hid hb1
  have HA := Lib.hid (HA.out.below hb1)
  have HO := Lib.hid (Of_calls D Q W1 HA.out)
  clear hb1
  have x0 := cell_at HX.out 0
  have x1 := cell_at HX.out 1
  have x2 := cell_at HX.out 2
  have x3 := cell_at HX.out 3
  have x4 := cell_at HX.out 4
  have xz := lt_of_heap HX.out
  simp only [List.getElem?_toArray, List.getElem?_cons_zero, List.getElem?_cons_succ] at x0 x1 x2 x3 x4
  go_enter Tryd.func5, Tryd.ntmps5
  go_upto_region 1 with fail
  rw [EW1.out, Ebd.out]
  go_wp2_with fail
  refine HO.out.mono ?_
  clear x0 x1 x2 x3 x4 xz
  rintro e W2 (⟨rfl, hb2⟩ | ⟨mb, rfl, hM, _, hb2, _⟩)
  · have HB := Lib.hid (chain HB.out hb2)
    clear hb2
    go_wp2_with fail
    refine (known_calls W2 (HT.out.below HB.out)).mono ?_
    rintro e W3 ⟨rfl, hb3⟩
    have HB := Lib.hid (chain HB.out hb3)
    clear hb3
    go_wp2_with fail
    go_ret
    exact ⟨rfl, HB.out⟩
  have HM := Lib.hid hM
  have HG := Lib.hid (Good.of_mod hM)
  have HB := Lib.hid (chain HB.out hb2)
  clear hM hb2
  go_wp2_with fail
  refine (HF.out W2).mono ?_
  rintro e w' ⟨rfl, rfl⟩
  have hlen := toks_len D HG.out fs.data.toList 0
  have hlink := toks_link D fs.data.toList.length fs.data.toList 0 (Nat.le_refl _)
  rw [Nat.zero_add] at hlink
  rw [size_list] at hlen
  obtain ⟨T, hTT⟩ : ∃ T, toks D 0 fs.data.toList = T := ⟨_, rfl⟩
  have hen : encode D 65536 fs.data.toList = (ids D fs.data.toList T, none) := by
    unfold encode
    rw [hTT]
    refine enc_all D 65536 _ _ (fun t ht => ?_)
    have := EncCount.Link.mem (hTT ▸ hlink) t ht
    rw [size_list] at this
    omega
  have hil := ids_len HG.out (hTT ▸ hlink)
  have hrb := rest_begin HG.out (hTT ▸ hlink)
  rw [size_list] at hil
  rw [hTT] at hlen hlink
  obtain ⟨I, hI⟩ : ∃ I, ids D fs.data.toList T = I := ⟨_, rfl⟩
  rw [hI] at hen hil hrb
  have HEN := Lib.hid hen
  have HTT := Lib.hid hTT
  have HLK := Lib.hid hlink
  have HRB := Lib.hid hrb
  clear hen hTT hlink hI hrb
  go_wp2_with fail
  refine (Encode_calls D mb 65536 fs W2 HM.out (HT.out.below HB.out) (by decide) (by decide) (by omega)).mono ?_
  rintro e W3 ⟨v, rfl, hr, hb3⟩
  rw [HEN.out] at hr ⊢
  have HB := Lib.hid (chain HB.out hb3)
  have HM := Lib.hid (HM.out.below hb3)
  obtain ⟨a, ca, rfl, hca, hra⟩ := NRow.row hr
  have HRA := Lib.hid hra
  unfold stOf
  simp only at hca ⊢
  clear hr hra hb3
  go_wp2_with fail
  refine (Tokens_calls D mb fs W3 HM.out (HT.out.below HB.out) (by omega)).mono ?_
  rintro e W5 ⟨v, rfl, hrow, hb5⟩
  have HB := Lib.hid (chain HB.out hb5)
  have HM := Lib.hid (HM.out.below hb5)
  have HRA := Lib.hid (HRA.out.below hb5)
  obtain ⟨av, cv, rfl, hcv, hcells⟩ := hrow.shape
  rw [HTT.out] at hcells hcv ⊢
  have HCE := Lib.hid hcells
  have j1 : ¬ ((fs.size : Int) < I.length) := by omega
  have j2 : ¬ ((I.length : Int) < T.length) := by omega
  have j3 : ¬ (fs.size < I.length) := by omega
  have j4 : ¬ (I.length < T.length) := by omega
  clear hrow hcells hb5
  go_wp2_with fail
  go_loopg [13, 14, 15, 16, 17] I.length (fun g s13 s14 s15 s16 s17 wr => ∃ i kk at' : Nat, i ≤ I.length ∧ kk ≤ T.length ∧ at' ≤ 2000 ∧ g = I.length - i ∧ s13 = .int .i64 at' ∧ s14 = .int .i64 kk ∧ s15 = .int .i64 i ∧ EncCount.Rest D fs.data.toList (T.drop kk) at' (I.drop i) ∧ Below w.heap.size w wr ∧ Below W5.heap.size W5 wr)
  case atStart => exact ⟨0, 0, 0, Nat.zero_le _, Nat.zero_le _, Nat.zero_le _, by omega, rfl, rfl, rfl, HRB.out, HB.out, Below.refl _ _⟩
  case round =>
    obtain ⟨i, kk, at', hi, hkk, hat, hg, rfl, rfl, rfl, hrest, hbw, hb5⟩ := hrel
    have HG2 := Lib.hid hg
    have HB := Lib.hid hbw
    have HB5 := Lib.hid hb5
    have HG' := HG
    have HG := HG2
    clear hg hbw
    by_cases hlt : i < I.length
    · have hdI : I.drop i = I.getD i 0 :: I.drop (i + 1) := by rw [List.getD_eq_getElem?_getD, List.getElem?_eq_getElem hlt]; exact List.drop_eq_getElem_cons hlt
      rw [hdI] at hrest
      have hkl : kk < T.length := by
        rcases Nat.lt_or_ge kk T.length with h | h
        · exact h
        · rw [List.drop_eq_nil_of_le h] at hrest
          cases hrest
      have hdT : T.drop kk = T.getD kk default :: T.drop (kk + 1) := by rw [List.getD_eq_getElem?_getD, List.getElem?_eq_getElem hkl]; exact List.drop_eq_getElem_cons hkl
      obtain ⟨a0, hl0⟩ := link_drop kk HLK.out
      rw [hdT] at hrest hl0
      obtain ⟨q1, q2, q3, q4, q5⟩ := rest_next HG'.out hl0 hrest
      have hxb := hl0.2.2.le
      rw [size_list] at hxb
      obtain ⟨g1, o1, rfl, hgl1, hc1⟩ := (HRA.out.below hb5).at hlt
      obtain ⟨g2, o2, rfl, _, hgl2, hce⟩ := HCE.out kk hkl
      obtain ⟨t1, t2, _⟩ := hce kk hkl
      have d1 := (World.cell?_of_block (a := ⟨g2, o2 + kk * 3, none⟩) (hb5.block g2 hgl2)).trans t1
      have d2 := (World.cell?_of_block (a := ⟨g2, o2 + kk * 3 + 1, none⟩) (hb5.block g2 hgl2)).trans t2
      have c0 := hc1 i hlt
      obtain ⟨id, hid⟩ : ∃ z, I.getD i 0 = z := ⟨_, rfl⟩
      obtain ⟨x, hx⟩ : ∃ x, T.getD kk default = x := ⟨_, rfl⟩
      have hidr : -9223372036854775808 ≤ id ∧ id ≤ 9223372036854775807 := by have := HM.out.nw; rw [hid] at q1; unfold isId at q1; omega
      rw [hid] at c0 q1 q3 q4 q5
      rw [hx] at d1 d2 q2 q3 q4 q5 hxb
      have HQ4 := Lib.hid q4
      have HQ5 := Lib.hid q5
      have hd : decide (isId D id) = true := decide_eq_true q1
      have i1 : (i : Int) < I.length := by omega
      have i2 : (0 : Int) ≤ i := by omega
      have i3 : (kk : Int) < T.length := by omega
      have i4 : (0 : Int) ≤ kk := by omega
      have i5 : ¬ ((T.length : Int) ≤ kk) := by omega
      have i6 : ¬ ((at' : Int) < x.a) := by omega
      have hpos := Good.word_pos HG'.out q1
      obtain ⟨z, hz⟩ : ∃ z, word D id = z := ⟨_, rfl⟩
      rw [hz] at q3 hpos HQ4 HQ5
      have i7 : ¬ ((x.b : Int) < (at' : Int) + z.size) := by omega
      have e1 : IntKind.i64.wrap ((at' : Int) + z.size) = (at' : Int) + z.size := i64w _ (by omega) (by omega)
      have e2 : IntKind.i64.wrap ((i : Int) + 1) = ((i + 1 : Nat) : Int) := by rw [i64w _ (by omega) (by omega)]; omega
      have e3 : IntKind.i64.wrap ((kk : Int) + 1) = ((kk + 1 : Nat) : Int) := by rw [i64w _ (by omega) (by omega)]; omega
      have hgl3 : g2 < wr.heap.size := by have := hb5.size; omega
      have HDT := Lib.hid hdT
      have HXX := Lib.hid hx
      clear hc1 hce t1 t2 hid hx q4 q5 hrest hl0 hdI hdT q1
      go_wp2_with fail
      refine (Word_mod (HM.out.below hb5) id hidr).mono ?_
      rintro e W6 ⟨rfl, hb⟩
      rw [hz]
      have HB := Lib.hid (chain HB.out hb)
      have HB5 := Lib.hid (chain HB5.out hb)
      have f1 := (World.cell?_of_block (a := ⟨g2, o2 + kk * 3, none⟩) (hb.block g2 hgl3)).trans d1
      have f2 := (World.cell?_of_block (a := ⟨g2, o2 + kk * 3 + 1, none⟩) (hb.block g2 hgl3)).trans d2
      have hgl4 : g2 < W6.heap.size := by have := hb.size; omega
      clear hb d1 d2 hgl3 c0 hz hb5
      by_cases he : (at' : Int) + z.size = x.b
      · have he' : ((at' : Int) + z.size == (x.b : Int)) = true := by simpa using he
        have HR := Lib.hid (HQ4.out (by omega))
        have HE := Lib.hid he
        clear he
        go_wp2_with fail
        go_roundg (I.length - (i + 1))
        case measure => have := HG.out; omega
        case rel => exact ⟨i + 1, kk + 1, x.b, by omega, by omega, by omega, rfl, by rw [HE.out], by go_num, by go_num, HR.out, HB.out, HB5.out⟩
      · have he' : ((at' : Int) + z.size == (x.b : Int)) = false := by simpa using he
        have HR := Lib.hid (HQ5.out (by omega))
        clear he
        go_wp2_with fail
        go_roundg (I.length - (i + 1))
        case measure => have := HG.out; omega
        case rel => exact ⟨i + 1, kk, at' + z.size, by omega, by omega, by omega, rfl, by simp, by go_num, by go_num, by rw [HDT.out, HXX.out]; exact HR.out, HB.out, HB5.out⟩
    · have hin : i = I.length := by omega
      subst hin
      rw [List.drop_length] at hrest
      have hk0 := rest_none hrest
      have hkT : kk = T.length := by
        have := List.drop_eq_nil_iff.1 hk0
        omega
      subst hkT
      have hi' : ¬ ((I.length : Int) < I.length) := by omega
      clear hrest hk0
      go_wp2_with fail
      refine (known_calls wr (HT.out.below HB.out)).mono ?_
      rintro e Wz ⟨rfl, hbz⟩
      have HB := Lib.hid (chain HB.out hbz)
      clear hbz
      go_wp2_with fail
      go_ret
      exact ⟨rfl, HB.out⟩
end Go.Proofs.YtkjkgpdfhmoenaaDoor.encodeCounts
