/-
  walk.Ids of a right model.
-/
import Derived.Test.YtgddlcbaieclcaaWalkLawFns
import Derived.Test.YtgddlcbaieclcaaGood
import Derived.Test.YtgddlcbaieclcaaSameInt
namespace Go.Proofs.Ytgddlcbaieclcaa.WalkIds
open Go Go.RowKit Go.Proofs.Ytgddlcbaieclcaa.WalkNum Go.Proofs.Ytgddlcbaieclcaa.WalkFns Go.Proofs.Ytgddlcbaieclcaa.Kit Go.Proofs.Ytgddlcbaieclcaa.Dt Go.Proofs.Ytgddlcbaieclcaa.MoNew Go.Proofs.Ytgddlcbaieclcaa.Good Go.Proofs.Ytgddlcbaieclcaa.SameInt
attribute [local irreducible] wpQuiet

theorem wkB_append (a : WB) (l m : List UInt8) : wkB (wkB a l) m = wkB a (l ++ m) := by simp [wkB]

/-- Where the walker stands behind k ids. -/
def wkT (D : Dt) (F : Nat → Int) (k : Nat) : WB := wkB B0 (txt D F k).data.toList
theorem wkT_succ (D : Dt) (F : Nat → Int) (k : Nat) : wkB (wkT D F k) (word D (F k)).data.toList = wkT D F (k + 1) := by
  unfold wkT
  rw [wkB_append, ← bytes_append]
  rfl

set_option maxHeartbeats 1000000 in
set_option maxRecDepth 100000 in
theorem Ids_calls (w : World) (mb : Nat) (D : Dt) (hM : Mod w mb D) (a : Option Addr) (len cap : Nat) (F : Nat → Int) (hr : Row w a len F) (hl : len ≤ 1000) (hid : ∀ i, i < len → -9223372036854775808 ≤ F i ∧ F i ≤ 9223372036854775807) :
    Calls Try.prog 30 #[.pointer (some ⟨mb, 0, none⟩), .slice a len cap] w fun e w' => e = .returned (.tuple #[(wkT D F (upto D F len)).val, .int .i64 (upto D F len)]) ∧ Below w.heap.size w w' := by
  have HM := Lib.hid hM
  have HR := Lib.hid hr
  have HI := Lib.hid hid
  obtain ⟨R, hR⟩ : ∃ R, upto D F len = R := ⟨_, rfl⟩
  rw [hR]
  have HRR := Lib.hid hR
  clear hM hr hid hR
  have kc := fun (w : World) (s : ByteArray) => Lib.run_convert_string_bytes (P := Try.prog) w 9 32 5 s Try.underlying9 Try.underlying32 Try.underlying5
  obtain ⟨W1, hW1⟩ : ∃ Xz, w.alloc (.cells #[.int .i64 0, .complex .f64 0 0] 29) = Xz := ⟨_, rfl⟩
  obtain ⟨rb, hrb⟩ : ∃ xz, w.heap.size = xz := ⟨_, rfl⟩
  have hb1 : Below w.heap.size w W1 := by rw [← hW1]; exact (Below.refl _ _).alloc (Nat.le_refl _) _
  have HB := Lib.hid (by rw [← hW1, ← hrb]; exact alloc_new rfl : W1.heap[rb]? = some (.cells #[.int .i64 0, .complex .f64 0 0] 29 (0, 0)))
  have EW1 := Lib.hid hW1
  have Erb := Lib.hid hrb
  clear hW1 hrb
  obtain ⟨W2, hW2⟩ : ∃ Xz, W1.alloc (.cells #[.int .i64 0, .complex .f64 0 0] 159) = Xz := ⟨_, rfl⟩
  obtain ⟨bx, hbx⟩ : ∃ xz, W1.heap.size = xz := ⟨_, rfl⟩
  have hb2 : Below W1.heap.size W1 W2 := by rw [← hW2]; exact (Below.refl _ _).alloc (Nat.le_refl _) _
  have HX := Lib.hid (by rw [← hW2, ← hbx]; exact alloc_new rfl : W2.heap[bx]? = some (.cells #[.int .i64 0, .complex .f64 0 0] 159 (0, 0)))
  have EW2 := Lib.hid hW2
  have Ebx := Lib.hid hbx
  clear hW2 hbx
  have hrx : rb < bx := by rw [← Ebx.out]; exact lt_of_heap HB.out
  have HB := Lib.hid ((hb2.block _ (lt_of_heap HB.out)).trans HB.out)
  have HB2 := Lib.hid (chain hb1 hb2)
  have hrb : w.heap.size ≤ rb := Nat.le_of_eq Erb.out
  clear hb1 hb2
  go_enter Try.func30, Try.ntmps30
  go_wp2_with fail
  rw [EW1.out, Erb.out]
  refine (WalkFns.New_calls _).mono ?_
  rintro e w' ⟨rfl, rfl⟩
  rw [EW2.out, Ebx.out]
  go_wp2_with fail
  go_loopg [17] len (fun g s17 wr => ∃ k : Nat, k ≤ len ∧ g = len - k ∧ s17 = .int .i64 k ∧ upto D F k = k ∧ WAt wr bx (wkT D F k) ∧ wr.heap[rb]? = some (.cells #[.int .i64 0, .complex .f64 0 0] 29 (0, 0)) ∧ Below w.heap.size w wr)
  case atStart => exact ⟨0, Nat.zero_le _, by omega, rfl, rfl, HX.out, HB.out, HB2.out⟩
  case round =>
    obtain ⟨k, hk, hg, rfl, hu, hx, hb, hbw⟩ := hrel
    have HG := Lib.hid hg
    have HU := Lib.hid hu
    have HX := Lib.hid hx
    have HB := Lib.hid hb
    have HBW := Lib.hid hbw
    clear hg hu hx hb hbw
    have HK := Lib.hid (HM.out.below HBW.out)
    by_cases hlt : k < len
    · obtain ⟨b, o, rfl, hbl, hc⟩ := (HR.out.below HBW.out).at hlt
      have c0 := hc k hlt
      have hi : (k : Int) < len := by omega
      have hid := HI.out k hlt
      obtain ⟨id, hidd⟩ : ∃ id, F k = id := ⟨_, rfl⟩
      rw [hidd] at c0 hid
      have HID := Lib.hid hidd
      clear hc hidd
      go_wp2_with fail
      refine (Word_mod HK.out id hid).mono ?_
      rintro e W3 ⟨rfl, hb3⟩
      unfold WAt at HX
      have HX := Lib.hid ((hb3.block _ (lt_of_heap HX.out)).trans HX.out)
      have HB := Lib.hid ((hb3.block _ (lt_of_heap HB.out)).trans HB.out)
      have HK := Lib.hid (HK.out.below hb3)
      have HBW := Lib.hid (chain HBW.out hb3)
      clear hb3 c0 hbl
      by_cases hkn : isId D id
      · have HN := Lib.hid (upto_succ HU.out (HID.out.symm ▸ hkn))
        have hd : decide (isId D id) = true := decide_eq_true hkn
        have HS := Lib.hid (wkT_succ D F k)
        rw [HID.out] at HS
        have hw := (of_mod HK.out).word_le id
        have HZ := Lib.hid (txt_size (of_mod HK.out) F k)
        clear hkn
        obtain ⟨s, hs⟩ : ∃ s, word D id = s := ⟨_, rfl⟩
        rw [hs] at HS hw ⊢
        clear hs
        go_wp2_with fail
        have hsl : s.data.toList.length = s.size := by simp
        have hz := HZ.out
        have hm0 : (txt D F k).data.toList.length = (txt D F k).size := by simp
        have hwk := wk_le W0 (txt D F k).data.toList
        have hx0 : W0.x.natAbs = 0 := rfl
        have hy0 : W0.y.natAbs = 0 := rfl
        refine (Write_calls bx _ _ _ _ s.data.toList hsl (wkT D F k) (wk W0 (txt D F k).data.toList) _ ?_ (wkB_is B0_is _ (by omega) (by omega)) (fun i hi => ?_) (by have := lt_of_heap HX.out; omega) (by omega) (by omega) (by omega)).mono ?_
        · unfold WAt
          rw [bw_old (lt_of_heap HX.out)]
          exact HX.out
        · simp only [Nat.zero_add]
          exact bw_cell rfl (by omega)
        clear hsl hz hm0 hwk hx0 hy0
        rintro e W4 ⟨rfl, hu4, hx4⟩
        rw [HS.out] at hx4
        have HX4 := Lib.hid hx4
        have HU4 := Lib.hid hu4
        clear hx4 hu4
        go_wp2_with fail
        go_roundg (gk - 1)
        case measure => have := HG.out; omega
        case rel =>
          have h1 := bytes_below W3 5 s
          have h2 := lt_of_heap HB.out
          have h3 := HBW.out.size
          have h4 := h1.size
          refine ⟨k + 1, by omega, by have := HG.out; omega, by go_num, HN.out, HX4.out, ?_, ?_⟩
          · rw [HU4.out.block rb (by omega) (by omega), h1.block rb h2]
            exact HB.out
          · exact (chain HBW.out h1).trans (HU4.out.below (by omega) (fun i hi e => by omega))
      · have HN := Lib.hid (upto_stop HU.out (by rw [HID.out]; exact hkn) len hlt)
        have hd : decide (isId D id) = false := decide_eq_false hkn
        clear hkn
        go_wp2_with fail
        refine (Walk_calls bx (wkT D F k) W3 HX.out).mono ?_
        rintro e W4 ⟨rfl, hb4⟩
        have HB := Lib.hid ((hb4.block _ (lt_of_heap HB.out)).trans HB.out)
        have HBW := Lib.hid (chain HBW.out hb4)
        clear hb4
        have b0 := cell_at HB.out 0
        have b1 := cell_at HB.out 1
        have bf := free_all HB.out
        have bz := lt_of_heap HB.out
        simp only [List.getElem?_toArray, List.getElem?_cons_zero, List.getElem?_cons_succ] at b0 b1
        go_wp2_with fail
        have hB := HBW.out
        have hRk : R = k := HRR.out.symm.trans HN.out
        rw [hRk]
        refine bodyPost_ret (v := .tuple #[.agg #[.int .i64 (wkT D F k).t, .complex .f64 (wkT D F k).p (wkT D F k).q], .int .i64 k]) (by simp [results, Try.results30, go_sem, *]) rfl (⟨rfl, ?_⟩)
        repeat (first | exact hB | refine Below.setCell ?_ (by first | omega | (have := hB.size; simp; omega)) _ | refine Below.alloc ?_ (by have := hB.size; simp; omega) _ | refine Below.drew ?_)
    · have hkl : k = len := by omega
      subst hkl
      have hRk : R = k := HRR.out.symm.trans HU.out
      have HN := Lib.hid hRk
      clear hRk
      go_wp2_with fail
      refine (Walk_calls bx (wkT D F k) wr HX.out).mono ?_
      rintro e W4 ⟨rfl, hb4⟩
      have HB := Lib.hid ((hb4.block _ (lt_of_heap HB.out)).trans HB.out)
      have HBW := Lib.hid (chain HBW.out hb4)
      clear hb4
      have b0 := cell_at HB.out 0
      have b1 := cell_at HB.out 1
      have bf := free_all HB.out
      have bz := lt_of_heap HB.out
      simp only [List.getElem?_toArray, List.getElem?_cons_zero, List.getElem?_cons_succ] at b0 b1
      go_wp2_with fail
      have hB := HBW.out
      rw [HN.out]
      refine bodyPost_ret (v := .tuple #[.agg #[.int .i64 (wkT D F k).t, .complex .f64 (wkT D F k).p (wkT D F k).q], .int .i64 k]) (by simp [results, Try.results30, go_sem, *]) rfl (⟨rfl, ?_⟩)
      repeat (first | exact hB | refine Below.setCell ?_ (by first | omega | (have := hB.size; simp; omega)) _ | refine Below.alloc ?_ (by have := hB.size; simp; omega) _ | refine Below.drew ?_)
end Go.Proofs.Ytgddlcbaieclcaa.WalkIds
