/-
  The walk of the law DecodeKept.
-/
import Derived.Test.YtendkmldecoogaaDoorDecodeK
import Derived.Test.YtendkmldecoogaaDoorBookAStr
import Derived.Test.YtendkmldecoogaaDoorKeep
import Derived.Test.YtendkmldecoogaaDoorRowInt
import Derived.Laws.BytesArg
namespace Go.Proofs.YtendkmldecoogaaDoor.decodeKept
open Go Go.RowKit Go.Proofs.YtendkmldecoogaaDoor.Kit Go.Proofs.YtendkmldecoogaaDoor.Range Go.Proofs.YtendkmldecoogaaDoor.Round Go.Proofs.YtendkmldecoogaaDoor.Seg Go.Proofs.YtendkmldecoogaaDoor.Collect Go.Proofs.YtendkmldecoogaaDoor.It Go.Proofs.YtendkmldecoogaaDoor.ItGo Go.Proofs.YtendkmldecoogaaDoor.Dt Go.Proofs.YtendkmldecoogaaDoor.MoNew Go.Proofs.YtendkmldecoogaaDoor.Good Go.Proofs.YtendkmldecoogaaDoor.Keep Go.Proofs.YtendkmldecoogaaDoor.RowInt Go.Proofs.YtendkmldecoogaaDoor.Decode Go.Proofs.YtendkmldecoogaaDoor.DecodeK Go.Proofs.YtendkmldecoogaaDoor.BookStr
attribute [local irreducible] wpQuiet

theorem three_text (W : World) (n1 n2 n3 : Int) : (convert 35 9 (.slice (some ⟨W.heap.size, 0, none⟩) 3 3)).run Tryd.prog (W.alloc (.cells #[.int .u8 n1, .int .u8 n2, .int .u8 n3] 5)) = .ok (.string (strOfNums [n1, n2, n3])) (W.alloc (.cells #[.int .u8 n1, .int .u8 n2, .int .u8 n3] 5)) := by
  have := run_convert_bytes_arg (P := Tryd.prog) (W.alloc (.cells #[.int .u8 n1, .int .u8 n2, .int .u8 n3] 5)) 35 5 Tryd.underlying35 Tryd.underlying5 W.heap.size 0 3 3 [n1, n2, n3] rfl (fun i hi => by
    match i, hi with
    | 0, _ => rw [cell_at (alloc_new rfl)]; rfl
    | 1, _ => rw [cell_at (alloc_new rfl)]; rfl
    | 2, _ => rw [cell_at (alloc_new rfl)]; rfl) 9 Tryd.underlying9
  exact this

def M0 (i _j : Nat) : ByteArray := ⟨#[109, 97, 114, 107, 32]⟩ ++ strOfNums [(i : Int) % 256, (i : Int) / 256 % 256, (i : Int) / 65536]

set_option maxRecDepth 100000 in
theorem mark_calls (i j : Nat) (w : World) (hi : i ≤ 10000000) (_ : j ≤ maxLen) : Calls Tryd.prog 39 #[.int .i64 i, .int .i64 j] w fun e w' => e = .returned (.string (M0 i j)) ∧ Below w.heap.size w w' := by
  have hcv := three_text w ((i : Int) % 256) ((i : Int) / 256 % 256) ((i : Int) / 65536)
  have hadd : ∀ W, (Op.stringOp .add ⟨#[109, 97, 114, 107, 32]⟩ (strOfNums [(i : Int) % 256, (i : Int) / 256 % 256, (i : Int) / 65536])).run Tryd.prog W = .ok (.string (M0 i j)) W := fun W => run_string_add_sum W _ _ (by simp [strOfNums, ByteArray.size])
  obtain ⟨m, hm⟩ : ∃ z, M0 i j = z := ⟨_, rfl⟩
  rw [hm] at hadd ⊢
  clear hm
  generalize strOfNums [(i : Int) % 256, (i : Int) / 256 % 256, (i : Int) / 65536] = z at hcv hadd
  go_enter Tryd.func39, Tryd.ntmps39
  go_wp2_with fail
  go_ret
  exact ⟨rfl, (Below.refl _ _).alloc (Nat.le_refl _) _⟩

theorem shaped (l : List ByteArray) : Shaped l.length (l.map .string) := by
  refine ⟨fun i hi => ⟨l[i], by simp [hi]⟩, fun u hu => ?_⟩
  obtain ⟨t, _, rfl⟩ := List.mem_map.1 hu
  rfl

theorem fresh {W W' : World} {base bb n : Nat} {L : List Rec} {lv wv v : Value} {held : Int} {xs : List Value} (h : Bk W base bb L lv wv held) (hv : Seg W' W.heap.size 9 1 v n xs) : ∀ r, r ∈ L → ∀ b, r.v.ownBlock = some b → v.ownBlock ≠ some b := fun r hr b hb hvb => by
  have h1 := ((h.vs r hr).1.lt b hb).2
  have h2 := (hv.lt b hvb).1
  omega
set_option maxHeartbeats 4000000 in
set_option maxRecDepth 100000 in
theorem walk (D : Dt) (p : Pl) (a : Option Addr) (len cap : Nat) (zs : List Int) (w : World) (hA : At w D p) (hr : IsRow .i64 w a len cap zs) (hl : len ≤ 35184372088832) (hT : Tabs w) :
    Calls Tryd.prog 9 #[.agg #[.slice p.a0 D.nw p.c0, .slice p.a1 D.nm p.c1, .slice p.a2 D.n0 p.c2, .slice p.a3 D.n1 p.c3, .slice p.a4 D.n2 p.c4], .slice a len cap] w fun e w' => e = .returned (.bool true) ∧ Below w.heap.size w w' := by
  obtain ⟨hr1, hr2⟩ := row_of hr
  have hcap : len ≤ cap := by
    rcases hr with ⟨_, rfl, rfl, _⟩ | ⟨_, _, h, _⟩
    · exact Nat.le_refl _
    · exact h
  obtain ⟨F, hF⟩ : ∃ F : Nat → Int, (fun i => zs.getD i 0) = F := ⟨_, rfl⟩
  have hF' : ∀ i, zs.getD i 0 = F i := fun i => by rw [← hF]
  rw [hF] at hr1
  simp only [hF'] at hr2
  have HT := Lib.hid hT
  have H := Lib.hid hA
  have HR := Lib.hid hr1
  have HI := Lib.hid hr2
  clear hA hr hr1 hr2 hF hF' hT
  obtain ⟨W1, hW1⟩ : ∃ W1, w.alloc (.cells #[.slice p.a0 D.nw p.c0, .slice p.a1 D.nm p.c1, .slice p.a2 D.n0 p.c2, .slice p.a3 D.n1 p.c3, .slice p.a4 D.n2 p.c4] 33) = W1 := ⟨_, rfl⟩
  obtain ⟨hb1, hx1, ha1⟩ := Ref5a.boxed H.out hW1
  obtain ⟨xb, hxb⟩ : ∃ b, w.heap.size = b := ⟨_, rfl⟩
  rw [hxb] at hx1
  have HX := Lib.hid hx1
  have HA := Lib.hid ha1
  have HB := Lib.hid hb1
  have HR := Lib.hid (HR.out.below hb1)
  clear H hx1 ha1 hb1
  have b0 := cell_at HX.out 0
  have b1 := cell_at HX.out 1
  have b2 := cell_at HX.out 2
  have b3 := cell_at HX.out 3
  have b4 := cell_at HX.out 4
  have bz := lt_of_heap HX.out
  simp only [List.getElem?_toArray, List.getElem?_cons_zero, List.getElem?_cons_succ] at b0 b1 b2 b3 b4
  go_enter Tryd.func9, Tryd.ntmps9
  go_wp2_with fail
  refine (Of_calls D p W1 HA.out).mono ?_
  clear hW1 hxb b0 b1 b2 b3 b4 bz
  rintro e W2 (⟨rfl, hb⟩ | ⟨mb, rfl, hm, hmb, hb, h300⟩)
  · have HB := Lib.hid (chain HB.out hb)
    clear hb
    go_wp2_with fail
    refine (known_calls W2 (HT.out.below HB.out)).mono ?_
    rintro e W3 ⟨rfl, hb⟩
    have HB := Lib.hid (chain HB.out hb)
    clear hb
    go_wp2_with fail
    go_ret
    exact ⟨rfl, HB.out⟩
  have HM := Lib.hid hm
  have HR := Lib.hid (HR.out.below hb)
  have HB := Lib.hid (chain HB.out hb)
  clear hb hm hmb h300 HX HA
  by_cases h2 : 200 < len
  · have h2' : (200 : Int) < len := by omega
    have hc2 : (200 : Int) ≤ cap := by omega
    go_wp2_with fail
    obtain ⟨n, hn⟩ : ∃ n : Nat, 200 = n := ⟨_, rfl⟩
    rw [hn]
    have hn2 : n ≤ 200 := by omega
    have HRN := Lib.hid (HR.out.mono (len' := n) (by omega))
    have HIN := Lib.hid (fun i (hi : i < n) => HI.out i (by omega))
    clear HR HI h2 h2' hc2 hcap hl hn
    obtain ⟨base, hbase⟩ : ∃ z, W2.heap.size = z := ⟨_, rfl⟩
    obtain ⟨W3, hW3⟩ : ∃ Xz, W2.alloc (.cells #[.slice none 0 0, .slice none 0 0, .int .i64 0, .bool false] 73) = Xz := ⟨_, rfl⟩
    obtain ⟨bb, hbb⟩ : ∃ xz, W2.heap.size = xz := ⟨_, rfl⟩
    have hb3 : Below W2.heap.size W2 W3 := by rw [← hW3]; exact (Below.refl _ _).alloc (Nat.le_refl _) _
    have HBB0 := Lib.hid (by rw [← hW3, ← hbb]; exact alloc_new rfl : W3.heap[bb]? = some (.cells #[.slice none 0 0, .slice none 0 0, .int .i64 0, .bool false] 73 (0, 0)))
    have EW3 := Lib.hid hW3
    have Ebb := Lib.hid hbb
    clear hW3 hbb
    have HK := Lib.hid (show Bk W3 base bb [] (.slice none 0 0) (.slice none 0 0) 0 from ⟨by rw [← hbase, ← Ebb.out]; exact Nat.le_refl _, HBB0.out, Seg.nil _ _ _ _, Seg.nil _ _ _ _, fun b h => (by simp [Value.ownBlock] at h), fun r hr => (by cases hr), List.Pairwise.nil⟩)
    have HM0 := HM
    have HR0 := HRN
    have HM := Lib.hid (HM.out.below hb3)
    have HRN := Lib.hid (HRN.out.below hb3)
    rw [hbase] at hb3
    have HBB := Lib.hid hb3
    have hbz : base ≤ W3.heap.size := by rw [← hbase]; exact hb3.size
    have HBS := Lib.hid hbase
    have hup := upto_le D F n
    clear hb3 hbase HBB0
    go_wp2_with fail
    rw [EW3.out, Ebb.out]
    refine (Words_calls W3 mb D HM.out a n cap F HRN.out (by omega) HIN.out).mono ?_
    rintro e Va ⟨v, rfl, hrow, hva⟩
    have HROW := Lib.hid hrow
    have HK5 := Lib.hid (HK.out.below hva)
    have HFR := Lib.hid (fresh HK.out hrow)
    have HBB := Lib.hid (HBB.out.trans (hva.mono hbz))
    have HM := Lib.hid (HM.out.below hva)
    have HRN := Lib.hid (HRN.out.below hva)
    have hbva : base ≤ Va.heap.size := Nat.le_trans hbz hva.size
    clear hrow hva
    go_wp2_with fail
    refine (Keep_calls bb base _ _ _ _ v _ _ Va HK5.out (HROW.out.rebase (fun b hb => Nat.le_trans hbz (HROW.out.lt b hb).1)) (shaped _) (by rw [wl_len]; omega) HFR.out (Nat.zero_le _) hbva).mono ?_
    rintro e Ua ⟨⟨z, rfl⟩, La, lva, wva, helda, hka, _, hla, huua⟩
    have HK := Lib.hid hka
    have huab := huua.below hbva (fun b hb h => by have := h.1; omega)
    have HBB := Lib.hid (HBB.out.trans huab)
    have hbz := Nat.le_trans hbva huua.size
    clear hka HFR HROW HK5
    have HM := Lib.hid (HM0.out.below (by rw [HBS.out]; exact HBB.out))
    have HRN := Lib.hid (HR0.out.below (by rw [HBS.out]; exact HBB.out))
    clear huab
    go_wp2_with fail
    refine (Words_calls Ua mb D HM.out a n cap F HRN.out (by omega) HIN.out).mono ?_
    rintro e Vb ⟨v, rfl, hrow, hvb⟩
    have HROW := Lib.hid hrow
    have HK5 := Lib.hid (HK.out.below hvb)
    have HFR := Lib.hid (fresh HK.out hrow)
    have HBB := Lib.hid (HBB.out.trans (hvb.mono hbz))
    have HM := Lib.hid (HM.out.below hvb)
    have HRN := Lib.hid (HRN.out.below hvb)
    have hbvb : base ≤ Vb.heap.size := Nat.le_trans hbz hvb.size
    clear hrow hvb
    go_wp2_with fail
    refine (Keep_calls bb base _ _ _ _ v _ _ Vb HK5.out (HROW.out.rebase (fun b hb => Nat.le_trans hbz (HROW.out.lt b hb).1)) (shaped _) (by rw [wl_len]; omega) HFR.out (Nat.le_trans (show La.length ≤ 1 from hla) (by decide)) hbvb).mono ?_
    rintro e Ub ⟨⟨z, rfl⟩, Lb, lvb, wvb, heldb, hkb, _, hlb, huub⟩
    have HK := Lib.hid hkb
    have hubb := huub.below hbvb (fun b hb h => by have := h.1; omega)
    have HBB := Lib.hid (HBB.out.trans hubb)
    have hbz := Nat.le_trans hbvb huub.size
    clear hkb HFR HROW HK5
    go_wp2_with fail
    refine (Apart_calls 39 M0 mark_calls (Go.Proofs.enters_of Tryd.func39 (by kernel_rfl) rfl) bb base _ _ _ _ Ub HK.out (Nat.le_trans hlb (Nat.le_trans (Nat.succ_le_succ (show La.length ≤ 1 from hla)) (by decide))) hbz).mono ?_
    rintro e W5 ⟨rfl, hb5⟩
    have HB5 := Lib.hid (chain HB.out (by rw [HBS.out]; exact HBB.out.trans hb5) : Below w.heap.size w W5)
    clear hb5
    go_wp2_with fail
    refine (known_calls W5 (HT.out.below HB5.out)).mono ?_
    rintro e W6 ⟨rfl, hb6⟩
    have HB := Lib.hid (chain HB5.out hb6)
    clear hb6
    go_wp2_with fail
    go_ret
    exact ⟨rfl, HB.out⟩
  · have h2' : ¬ ((200 : Int) < len) := by omega
    go_wp2_with fail
    obtain ⟨n, rfl⟩ : ∃ n : Nat, n = len := ⟨_, rfl⟩
    have hn2 : n ≤ 200 := by omega
    have HRN := Lib.hid HR.out
    have HIN := Lib.hid HI.out
    clear HR HI h2 h2' hcap hl
    obtain ⟨base, hbase⟩ : ∃ z, W2.heap.size = z := ⟨_, rfl⟩
    obtain ⟨W3, hW3⟩ : ∃ Xz, W2.alloc (.cells #[.slice none 0 0, .slice none 0 0, .int .i64 0, .bool false] 73) = Xz := ⟨_, rfl⟩
    obtain ⟨bb, hbb⟩ : ∃ xz, W2.heap.size = xz := ⟨_, rfl⟩
    have hb3 : Below W2.heap.size W2 W3 := by rw [← hW3]; exact (Below.refl _ _).alloc (Nat.le_refl _) _
    have HBB0 := Lib.hid (by rw [← hW3, ← hbb]; exact alloc_new rfl : W3.heap[bb]? = some (.cells #[.slice none 0 0, .slice none 0 0, .int .i64 0, .bool false] 73 (0, 0)))
    have EW3 := Lib.hid hW3
    have Ebb := Lib.hid hbb
    clear hW3 hbb
    have HK := Lib.hid (show Bk W3 base bb [] (.slice none 0 0) (.slice none 0 0) 0 from ⟨by rw [← hbase, ← Ebb.out]; exact Nat.le_refl _, HBB0.out, Seg.nil _ _ _ _, Seg.nil _ _ _ _, fun b h => (by simp [Value.ownBlock] at h), fun r hr => (by cases hr), List.Pairwise.nil⟩)
    have HM0 := HM
    have HR0 := HRN
    have HM := Lib.hid (HM.out.below hb3)
    have HRN := Lib.hid (HRN.out.below hb3)
    rw [hbase] at hb3
    have HBB := Lib.hid hb3
    have hbz : base ≤ W3.heap.size := by rw [← hbase]; exact hb3.size
    have HBS := Lib.hid hbase
    have hup := upto_le D F n
    clear hb3 hbase HBB0
    go_wp2_with fail
    rw [EW3.out, Ebb.out]
    refine (Words_calls W3 mb D HM.out a n cap F HRN.out (by omega) HIN.out).mono ?_
    rintro e Va ⟨v, rfl, hrow, hva⟩
    have HROW := Lib.hid hrow
    have HK5 := Lib.hid (HK.out.below hva)
    have HFR := Lib.hid (fresh HK.out hrow)
    have HBB := Lib.hid (HBB.out.trans (hva.mono hbz))
    have HM := Lib.hid (HM.out.below hva)
    have HRN := Lib.hid (HRN.out.below hva)
    have hbva : base ≤ Va.heap.size := Nat.le_trans hbz hva.size
    clear hrow hva
    go_wp2_with fail
    refine (Keep_calls bb base _ _ _ _ v _ _ Va HK5.out (HROW.out.rebase (fun b hb => Nat.le_trans hbz (HROW.out.lt b hb).1)) (shaped _) (by rw [wl_len]; omega) HFR.out (Nat.zero_le _) hbva).mono ?_
    rintro e Ua ⟨⟨z, rfl⟩, La, lva, wva, helda, hka, _, hla, huua⟩
    have HK := Lib.hid hka
    have huab := huua.below hbva (fun b hb h => by have := h.1; omega)
    have HBB := Lib.hid (HBB.out.trans huab)
    have hbz := Nat.le_trans hbva huua.size
    clear hka HFR HROW HK5
    have HM := Lib.hid (HM0.out.below (by rw [HBS.out]; exact HBB.out))
    have HRN := Lib.hid (HR0.out.below (by rw [HBS.out]; exact HBB.out))
    clear huab
    go_wp2_with fail
    refine (Words_calls Ua mb D HM.out a n cap F HRN.out (by omega) HIN.out).mono ?_
    rintro e Vb ⟨v, rfl, hrow, hvb⟩
    have HROW := Lib.hid hrow
    have HK5 := Lib.hid (HK.out.below hvb)
    have HFR := Lib.hid (fresh HK.out hrow)
    have HBB := Lib.hid (HBB.out.trans (hvb.mono hbz))
    have HM := Lib.hid (HM.out.below hvb)
    have HRN := Lib.hid (HRN.out.below hvb)
    have hbvb : base ≤ Vb.heap.size := Nat.le_trans hbz hvb.size
    clear hrow hvb
    go_wp2_with fail
    refine (Keep_calls bb base _ _ _ _ v _ _ Vb HK5.out (HROW.out.rebase (fun b hb => Nat.le_trans hbz (HROW.out.lt b hb).1)) (shaped _) (by rw [wl_len]; omega) HFR.out (Nat.le_trans (show La.length ≤ 1 from hla) (by decide)) hbvb).mono ?_
    rintro e Ub ⟨⟨z, rfl⟩, Lb, lvb, wvb, heldb, hkb, _, hlb, huub⟩
    have HK := Lib.hid hkb
    have hubb := huub.below hbvb (fun b hb h => by have := h.1; omega)
    have HBB := Lib.hid (HBB.out.trans hubb)
    have hbz := Nat.le_trans hbvb huub.size
    clear hkb HFR HROW HK5
    go_wp2_with fail
    refine (Apart_calls 39 M0 mark_calls (Go.Proofs.enters_of Tryd.func39 (by kernel_rfl) rfl) bb base _ _ _ _ Ub HK.out (Nat.le_trans hlb (Nat.le_trans (Nat.succ_le_succ (show La.length ≤ 1 from hla)) (by decide))) hbz).mono ?_
    rintro e W5 ⟨rfl, hb5⟩
    have HB5 := Lib.hid (chain HB.out (by rw [HBS.out]; exact HBB.out.trans hb5) : Below w.heap.size w W5)
    clear hb5
    go_wp2_with fail
    refine (known_calls W5 (HT.out.below HB5.out)).mono ?_
    rintro e W6 ⟨rfl, hb6⟩
    have HB := Lib.hid (chain HB5.out hb6)
    clear hb6
    go_wp2_with fail
    go_ret
    exact ⟨rfl, HB.out⟩
end Go.Proofs.YtendkmldecoogaaDoor.decodeKept
