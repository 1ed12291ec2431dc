/-
  The walk of the law EncodeKept.
-/
import Derived.Test.YtkjkgpdfhmoenaaDoorEncKnown
import Derived.Test.YtkjkgpdfhmoenaaDoorEncParts
import Derived.Test.YtkjkgpdfhmoenaaDoorBookAInt
namespace Go.Proofs.YtkjkgpdfhmoenaaDoor.encodeKept
open Go Go.RowKit Go.Proofs.YtkjkgpdfhmoenaaDoor.Kit Go.Proofs.YtkjkgpdfhmoenaaDoor.Round Go.Proofs.YtkjkgpdfhmoenaaDoor.Seg Go.Proofs.YtkjkgpdfhmoenaaDoor.ItGo Go.Proofs.YtkjkgpdfhmoenaaDoor.Dt Go.Proofs.YtkjkgpdfhmoenaaDoor.MoNew Go.Proofs.YtkjkgpdfhmoenaaDoor.Keep Go.Proofs.YtkjkgpdfhmoenaaDoor.EncLaw Go.Proofs.YtkjkgpdfhmoenaaDoor.EncGo Go.Proofs.YtkjkgpdfhmoenaaDoor.BpeGo Go.Proofs.YtkjkgpdfhmoenaaDoor.Few Go.Proofs.YtkjkgpdfhmoenaaDoor.EncKnown Go.Proofs.YtkjkgpdfhmoenaaDoor.BookInt
attribute [local irreducible] wpQuiet

set_option maxRecDepth 100000 in
theorem ints_calls (i j : Nat) (w : World) (hi : i ≤ 10000000) (_hj : j ≤ maxLen) : Calls Tryd.prog 38 #[.int .i64 i, .int .i64 j] w fun e w' => e = .returned (.int .i64 (-1000 - (i : Int))) ∧ Below w.heap.size w w' := by
  have w1 : IntKind.i64.wrap (-1000 - (i : Int)) = -1000 - (i : Int) := i64w _ (by omega) (by omega)
  go_enter Tryd.func38, Tryd.ntmps38
  go_wp2_with fail
  go_ret
  exact ⟨rfl, Below.refl _ _⟩

theorem vals_shaped (l : List Int) : Shaped l.length (vals l) := ⟨fun i hi => ⟨l.getD i 0, by
    unfold vals
    rw [List.getElem?_map, List.getD_eq_getElem?_getD, List.getElem?_eq_getElem hi]
    rfl⟩, fun u hu => by
    unfold vals at hu
    obtain ⟨z, _, rfl⟩ := List.mem_map.1 hu
    rfl⟩
theorem fresh {W W' : World} {base bb n : Nat} {L : List Rec} {lv wv v : Value} {held : Int} {xs : List Value} (h : Bk W base bb L lv wv held) (hv : Seg W' W.heap.size 3 1 v n xs) : ∀ r, r ∈ L → ∀ b, r.v.ownBlock = some b → v.ownBlock ≠ some b := fun r hr b hb hvb => by
  have h1 := ((h.vs r hr).1.lt b hb).2
  have h2 := (hv.lt b hvb).1
  omega

set_option maxHeartbeats 4000000 in
set_option maxRecDepth 100000 in
theorem walk (D : Dt) (Q : Pl) (s : ByteArray) (w : World) (hd : At w D Q) (_hs : s.size ≤ 140737488355328) (hT : Tabs w) :
    Calls Tryd.prog 11 #[.agg #[.slice Q.a0 D.nw Q.c0, .slice Q.a1 D.nm Q.c1, .slice Q.a2 D.n0 Q.c2, .slice Q.a3 D.n1 Q.c3, .slice Q.a4 D.n2 Q.c4], .string s] w fun e w' => e = .returned (.bool true) ∧ Below w.heap.size w w' := by
  have HA := Lib.hid hd
  have HT := Lib.hid hT
  clear hd hT
  obtain ⟨fs, hfs⟩ : ∃ z, few s 300 = z := ⟨_, rfl⟩
  have hf1 := few_size s 300
  have HF := Lib.hid (fun w => few_calls s 300 w (by decide))
  rw [hfs] at HF hf1
  have hfz : fs.size ≤ 300 := hf1.1
  clear hfs hf1
  obtain ⟨W1, hW1⟩ : ∃ Xz, w.alloc (.cells #[.slice Q.a0 D.nw Q.c0, .slice Q.a1 D.nm Q.c1, .slice Q.a2 D.n0 Q.c2, .slice Q.a3 D.n1 Q.c3, .slice Q.a4 D.n2 Q.c4] 26) = Xz := ⟨_, rfl⟩
  obtain ⟨bd, hbd⟩ : ∃ xz, w.heap.size = xz := ⟨_, rfl⟩
  have hb1 : Below w.heap.size w W1 := by rw [← hW1]; exact (Below.refl _ _).alloc (Nat.le_refl _) _
  have HX := Lib.hid (by rw [← hW1, ← hbd]; exact alloc_new rfl : W1.heap[bd]? = some (.cells #[.slice Q.a0 D.nw Q.c0, .slice Q.a1 D.nm Q.c1, .slice Q.a2 D.n0 Q.c2, .slice Q.a3 D.n1 Q.c3, .slice Q.a4 D.n2 Q.c4] 26 (0, 0)))
  have EW1 := Lib.hid hW1
  have Ebd := Lib.hid hbd
  clear hW1 hbd
  have HB := Lib.hid hb1
  have HA := Lib.hid (HA.out.below hb1)
  have HO := Lib.hid (Of_calls D Q W1 HA.out)
  clear hb1
  have x0 := cell_at HX.out 0
  have x1 := cell_at HX.out 1
  have x2 := cell_at HX.out 2
  have x3 := cell_at HX.out 3
  have x4 := cell_at HX.out 4
  have xz := lt_of_heap HX.out
  simp only [List.getElem?_toArray, List.getElem?_cons_zero, List.getElem?_cons_succ] at x0 x1 x2 x3 x4
  go_enter Tryd.func11, Tryd.ntmps11
  go_upto_region 1 with fail
  rw [EW1.out, Ebd.out]
  go_wp2_with fail
  refine HO.out.mono ?_
  clear x0 x1 x2 x3 x4 xz
  rintro e W2 (⟨rfl, hb2⟩ | ⟨mb, rfl, hM, _, hb2, _⟩)
  · have HB := Lib.hid (chain HB.out hb2)
    clear hb2
    go_wp2_with fail
    refine (known_calls W2 (HT.out.below HB.out)).mono ?_
    rintro e W3 ⟨rfl, hb3⟩
    have HB := Lib.hid (chain HB.out hb3)
    clear hb3
    go_wp2_with fail
    go_ret
    exact ⟨rfl, HB.out⟩
  have HM := Lib.hid hM
  have HG := Lib.hid (Good.of_mod hM)
  have HB := Lib.hid (chain HB.out hb2)
  clear hM hb2
  go_wp2_with fail
  refine (HF.out W2).mono ?_
  rintro e w' ⟨rfl, rfl⟩
  obtain ⟨base, hbase⟩ : ∃ z, W2.heap.size = z := ⟨_, rfl⟩
  obtain ⟨W3, hW3⟩ : ∃ Xz, W2.alloc (.cells #[.slice none 0 0, .slice none 0 0, .int .i64 0, .bool false] 75) = Xz := ⟨_, rfl⟩
  obtain ⟨bb, hbb⟩ : ∃ xz, W2.heap.size = xz := ⟨_, rfl⟩
  have hb3 : Below W2.heap.size W2 W3 := by rw [← hW3]; exact (Below.refl _ _).alloc (Nat.le_refl _) _
  have HBB := Lib.hid (by rw [← hW3, ← hbb]; exact alloc_new rfl : W3.heap[bb]? = some (.cells #[.slice none 0 0, .slice none 0 0, .int .i64 0, .bool false] 75 (0, 0)))
  have EW3 := Lib.hid hW3
  have Ebb := Lib.hid hbb
  clear hW3 hbb
  have HK := Lib.hid (show Bk W3 base bb [] (.slice none 0 0) (.slice none 0 0) 0 from ⟨by rw [← hbase, ← Ebb.out]; exact Nat.le_refl _, HBB.out, Seg.nil _ _ _ _, Seg.nil _ _ _ _, fun b h => (by simp [Value.ownBlock] at h), fun r hr => (by cases hr), List.Pairwise.nil⟩)
  rw [hbase] at hb3
  have HB3 := Lib.hid hb3
  have hz : base ≤ W3.heap.size := by rw [← hbase]; exact hb3.size
  have HBS := Lib.hid hbase
  clear hb3 hbase HBB
  go_wp2_with fail
  rw [EW3.out, Ebb.out]
  go_loopg [9] 2 (fun g s9 wr => ∃ (i : Nat) (L : List Rec) (lv wv : Value) (held : Int), i ≤ 2 ∧ g = 2 - i ∧ s9 = .int .i64 i ∧ Bk wr base bb L lv wv held ∧ L.length ≤ i * 2 ∧ Below base W2 wr ∧ base ≤ wr.heap.size)
  case atStart => exact ⟨0, [], _, _, _, by omega, by omega, rfl, HK.out, Nat.le_refl _, HB3.out, hz⟩
  case round =>
    obtain ⟨i, L, lv, wv, held, hi, hg, rfl, hk, hl, hb, hbz⟩ := hrel
    have HG2 := Lib.hid hg
    have HK := Lib.hid hk
    have HBB := Lib.hid hb
    clear hg hk hb
    have HM4 := Lib.hid (HM.out.below (by rw [HBS.out]; exact HBB.out))
    have HB4 := Lib.hid (show Below w.heap.size w wr from chain HB.out (by rw [HBS.out]; exact HBB.out))
    by_cases hlt : i < 2
    · have hlti : (i : Int) < 2 := by omega
      go_wp2_with fail
      have hEC := Encode_calls D mb 100 fs wr HM4.out (HT.out.below HB4.out) (by decide) (by decide) (by omega)
      have hv1 := (encode_cat HG.out 100 fs.data.toList).2.1
      rw [size_list] at hv1
      have htot : tot [fs, fs] = fs.size + fs.size := by simp [tot]
      have hv2 := (encode_cat HG.out 100 (glue [fs, fs]).data.toList).2.1
      rw [size_list, glue_size, htot] at hv2
      obtain ⟨E, hE⟩ : ∃ z, encode D 100 fs.data.toList = z := ⟨_, rfl⟩
      obtain ⟨E2, hE2⟩ : ∃ z, encode D 100 (glue [fs, fs]).data.toList = z := ⟨_, rfl⟩
      rw [hE] at hv1 hEC
      rw [hE2] at hv2
      refine hEC.mono ?_
      rintro e W5 ⟨v, rfl, hrow, hb5⟩
      have HK5 := Lib.hid (HK.out.below hb5)
      have HB5 := Lib.hid (HBB.out.trans (hb5.mono hbz))
      have HM5 := Lib.hid (HM4.out.below hb5)
      have HBW5 := Lib.hid (chain HB4.out hb5)
      have hbz5 : base ≤ W5.heap.size := Nat.le_trans hbz hb5.size
      have HFR := Lib.hid (fresh HK.out hrow)
      obtain ⟨av, cv, rfl, -⟩ := Seg.shape hrow
      have HROW := Lib.hid hrow
      have HLT := Lib.hid (fun b hb => (Seg.lt hrow b hb).2)
      obtain ⟨st1, hst1⟩ : ∃ z, stOf E.2 = z := ⟨_, rfl⟩
      rw [hst1]
      have hz5 := hb5.size
      clear hb5 hst1 hrow hEC hE
      obtain ⟨W6, hW6⟩ : ∃ Xz, W5.alloc (.cells #[.string fs, .string fs] 9) = Xz := ⟨_, rfl⟩
      obtain ⟨pb, hpb⟩ : ∃ xz, W5.heap.size = xz := ⟨_, rfl⟩
      have hb6 : Below W5.heap.size W5 W6 := by rw [← hW6]; exact (Below.refl _ _).alloc (Nat.le_refl _) _
      have HPB := Lib.hid (by rw [← hW6, ← hpb]; exact alloc_new rfl : W6.heap[pb]? = some (.cells #[.string fs, .string fs] 9 (0, 0)))
      have EW6 := Lib.hid hW6
      have Epb := Lib.hid hpb
      clear hW6 hpb
      have htx : TxRow W6 (some ⟨pb, 0, none⟩) [fs, fs] := .inr ⟨pb, 0, rfl, lt_of_heap HPB.out, fun j x hx => by
        rw [cell_at HPB.out, Nat.zero_add]
        match j, hx with
        | 0, hx => simp at hx; rw [← hx]; rfl
        | 1, hx => simp at hx; rw [← hx]; rfl
        | j + 2, hx => simp at hx⟩
      have hPA := Parts_calls D mb 100 (some ⟨pb, 0, none⟩) 2 [fs, fs] W6 (HM5.out.below hb6) (HT.out.below (chain HBW5.out hb6)) (by decide) (by decide) htx (by simp) (by simp) (by omega)
      rw [hE2] at hPA
      have HPA := Lib.hid hPA
      have HROW := Lib.hid (Seg.below HROW.out hb6)
      have HK6 := Lib.hid (HK5.out.below hb6)
      have HB6 := Lib.hid (HB5.out.trans (hb6.mono hbz5))
      have hz6 := hb6.size
      clear hb6 htx hPA hE2
      go_wp2_with fail
      rw [EW6.out, Epb.out]
      refine HPA.out.mono ?_
      rintro e W7 ⟨v2, rfl, hrow2, hb7⟩
      have HROW := Lib.hid (Seg.below HROW.out hb7)
      have HK7 := Lib.hid (HK6.out.below hb7)
      have HB7 := Lib.hid (HB6.out.trans (hb7.mono (by omega)))
      have hz7 := hb7.size
      obtain ⟨av2, cv2, rfl, -⟩ := Seg.shape hrow2
      have HROW2 := Lib.hid hrow2
      obtain ⟨st2, hst2⟩ : ∃ z, stOf E2.2 = z := ⟨_, rfl⟩
      rw [hst2]
      clear hb7 hrow2 hst2 HPA
      go_wp2_with fail
      refine (Keep_calls bb base L lv wv held _ _ _ W7 HK7.out (Seg.rebase HROW.out (fun b hb => by have := (Seg.lt HROW.out b hb).1; omega)) (vals_shaped E.1) (by omega) HFR.out (by omega) (by omega)).mono ?_
      rintro e W8 ⟨⟨z, rfl⟩, L', lv', wv', held', hk8, hin, hl8, hu8⟩
      have HK8 := Lib.hid hk8
      have HB8 := Lib.hid (HB7.out.trans (hu8.below (by omega) (fun b hb h => by have := h.1; omega)))
      have hz8 := hu8.size
      have HROW2' := Lib.hid (seg_mine (Seg.rebase HROW2.out (fun b hb => by have := (Seg.lt HROW2.out b hb).1; omega) : Seg W7 base 3 1 _ _ _) HK7.out.bk (hu8.mono (fun b _ h => h.2)))
      have HFR2 := Lib.hid (show ∀ r, r ∈ L' → ∀ b, r.v.ownBlock = some b → (Value.slice av2 E2.1.length cv2).ownBlock ≠ some b from fun r hr b hb hvb => by
        have h2 := (Seg.lt HROW2.out b hvb).1
        rcases hin r hr with h | h
        · have h1 := ((HK.out.vs r h).1.lt b hb).2
          omega
        · rw [h] at hb
          have h1 := (Seg.lt HROW.out b hb).1
          have h3 : b < W5.heap.size := HLT.out b hb
          omega)
      clear hk8 hu8 hin HFR
      go_wp2_with fail
      refine (Keep_calls bb base L' lv' wv' held' _ _ _ W8 HK8.out HROW2'.out (vals_shaped E2.1) (by omega) HFR2.out (by omega) (by omega)).mono ?_
      rintro e W9 ⟨⟨z2, rfl⟩, L2, lv2, wv2, held2, hk9, _, hl9, hu9⟩
      have HK9 := Lib.hid hk9
      have HB9 := Lib.hid (HB8.out.trans (hu9.below (by omega) (fun b hb h => by have := h.1; omega)))
      have hbz9 : base ≤ W9.heap.size := by have := hu9.size; omega
      clear hk9 hu9
      go_wp2_with fail
      go_roundg (2 - (i + 1))
      case measure => have := HG2.out; omega
      case rel => exact ⟨i + 1, L2, lv2, wv2, held2, by omega, rfl, by go_num, HK9.out, by omega, HB9.out, hbz9⟩
    · have hi2 : i = 2 := by omega
      subst hi2
      go_wp2_with fail
      refine (Apart_calls 38 (fun i _ => -1000 - (i : Int)) ints_calls (Go.Proofs.enters_of Tryd.func38 (by kernel_rfl) rfl) bb base L lv wv held wr HK.out (by omega) hbz).mono ?_
      rintro e W5 ⟨rfl, hb5⟩
      have HB := Lib.hid (chain HB.out (by rw [HBS.out]; exact HBB.out.trans hb5) : Below w.heap.size w W5)
      clear hb5
      go_wp2_with fail
      refine (known_calls W5 (HT.out.below HB.out)).mono ?_
      rintro e Wz ⟨rfl, hbz⟩
      have HB := Lib.hid (chain HB.out hbz)
      clear hbz
      go_wp2_with fail
      go_ret
      exact ⟨rfl, HB.out⟩
end Go.Proofs.YtkjkgpdfhmoenaaDoor.encodeKept
