/-
  decode.Words, decode.Bytes.
-/
import Derived.Test.YtendkmldecoogaaDoorCollect
import Derived.Test.YtendkmldecoogaaDoorMoNew
import Derived.Test.YtendkmldecoogaaDoorSameTok
import Derived.Test.YtendkmldecoogaaDoorShelfJ
namespace Go.Proofs.YtendkmldecoogaaDoor.Decode
open Go Go.RowKit Go.Proofs.YtendkmldecoogaaDoor.Kit Go.Proofs.YtendkmldecoogaaDoor.Round Go.Proofs.YtendkmldecoogaaDoor.Seg Go.Proofs.YtendkmldecoogaaDoor.Collect Go.Proofs.YtendkmldecoogaaDoor.Dt Go.Proofs.YtendkmldecoogaaDoor.MoNew Go.Proofs.YtendkmldecoogaaDoor.Good
attribute [local irreducible] wpQuiet

/-- One element is put behind a list of the call's own. -/
theorem next {P : Program} {t e : TypeId} {sz by' n : Nat} {xs : List Value} {w0 A : World} {v z : Value} (E : Elem P t e z sz by') (hb0 : Below w0.heap.size w0 A) (h : Seg A w0.heap.size e sz v n xs) {bb : Nat} {news : List Value} (hb : A.heap[bb]? = some (.cells news.toArray e (0, 0))) (hl : news.length = sz)
    (h1 : ∀ u ∈ news, u.oneCell' = true) (h63 : n + 1 ≤ maxLen) (hby : (n + 1) * by' ≤ 140737488355328) (ty : TypeId) :
    ∃ v' A', (Builtin.append_ #[t, t] ty #[v, .slice (some ⟨bb, 0, none⟩) 1 1]).run P A = .ok v' A' ∧ Seg A' w0.heap.size e sz v' (n + 1) (xs ++ news) ∧ Below w0.heap.size w0 A' := by
  obtain ⟨i, hi, hz0, hz1, hz2⟩ := E.parts
  have hsrc : Src A (.slice (some ⟨bb, 0, none⟩) 1 1) 1 news := by
    refine ⟨some ⟨bb, 0, none⟩, 1, rfl, (fun h => by cases h), fun ad had j u hu => ?_⟩
    cases had
    rw [add_plain, cell_at hb]
    simpa using hu
  obtain ⟨v', A', hr, ha, _⟩ := run_append_seg (P := P) A w0.heap.size t ty e i z sz by' E.t hi hz0 hz1 hz2 E.z E.p v n xs h (.slice (some ⟨bb, 0, none⟩) 1 1) 1 news (by rw [hl]; omega) hsrc h1 h63 hby hb0.size
  exact ⟨v', A', hr, ha.seg, hb0.trans (ha.u.below hb0.size (fun b hb hh => by have := (h.lt b hh).1; omega))⟩

/-- The words of the first k ids. -/
def wl (D : Dt) (F : Nat → Int) (k : Nat) : List ByteArray := (List.range k).map fun i => word D (F i)
theorem wl_len (D : Dt) (F : Nat → Int) (k : Nat) : (wl D F k).length = k := by simp [wl]
theorem wl_succ (D : Dt) (F : Nat → Int) (k : Nat) : wl D F (k + 1) = wl D F k ++ [word D (F k)] := by simp [wl, List.range_succ]
theorem wl_join (D : Dt) (F : Nat → Int) : ∀ k, ((wl D F k).map (·.data.toList)).flatten = (txt D F k).data.toList
  | 0 => by simp [wl, txt]
  | k + 1 => by
    rw [wl_succ, List.map_append, List.flatten_append, wl_join D F k]
    simp [txt]
theorem join_nil : ∀ (l : List (List UInt8)), Lib.join l [] = l.flatten
  | [] => rfl
  | x :: r => by
    rw [Lib.join_cons]
    unfold Lib.joinTail
    simp

theorem elemS : Elem Tryd.prog 29 9 (.string ByteArray.empty) 1 16 := ⟨Tryd.underlying29, by kernel_rfl, rfl, by decide⟩

/-- Texts in a row of the call's own. -/
def Texts (w : World) (base : Nat) (v : Value) (l : List ByteArray) : Prop := Seg w base 9 1 v l.length (l.map .string)

set_option maxHeartbeats 2000000 in
set_option maxRecDepth 100000 in
theorem Words_calls (w : World) (mb : Nat) (D : Dt) (hM : Mod w mb D) (a : Option Addr) (len cap : Nat) (F : Nat → Int) (hr : SameInt.Row w a len F) (hl : len ≤ 1000000) (hid : ∀ i, i < len → -9223372036854775808 ≤ F i ∧ F i ≤ 9223372036854775807) :
    Calls Tryd.prog 37 #[.pointer (some ⟨mb, 0, none⟩), .slice a len cap] w fun e w' => ∃ v, e = .returned v ∧ Texts w' w.heap.size v (wl D F (upto D F len)) ∧ Below w.heap.size w w' := by
  have HM := Lib.hid hM
  have HR := Lib.hid hr
  have HI := Lib.hid hid
  obtain ⟨R, hR⟩ : ∃ R, upto D F len = R := ⟨_, rfl⟩
  rw [hR]
  have HRR := Lib.hid hR
  clear hM hr hid hR
  go_enter Tryd.func37, Tryd.ntmps37
  go_wp2_with fail
  go_loopg [5, 14] len (fun g s5 s14 wr => ∃ k : Nat, k ≤ len ∧ g = len - k ∧ s14 = .int .i64 k ∧ upto D F k = k ∧ Texts wr w.heap.size s5 (wl D F k) ∧ Below w.heap.size w wr)
  case atStart => exact ⟨0, Nat.zero_le _, by omega, rfl, rfl, Seg.nil _ _ _ _, Below.refl _ _⟩
  case round =>
    obtain ⟨k, hk, hg, rfl, hu, ht, hbw⟩ := hrel
    have HG := Lib.hid hg
    have HU := Lib.hid hu
    have HTX := Lib.hid ht
    have HBW := Lib.hid hbw
    clear hg hu ht hbw
    have HK := Lib.hid (HM.out.below HBW.out)
    by_cases hlt : k < len
    · obtain ⟨b, o, rfl, hbl, hc⟩ := (HR.out.below HBW.out).at hlt
      have c0 := hc k hlt
      have hi : (k : Int) < len := by omega
      have hid := HI.out k hlt
      obtain ⟨id, hidd⟩ : ∃ id, F k = id := ⟨_, rfl⟩
      rw [hidd] at c0 hid
      have HID := Lib.hid hidd
      clear hc hidd
      go_wp2_with fail
      refine (Word_mod HK.out id hid).mono ?_
      rintro e W3 ⟨rfl, hb3⟩
      have HTX := Lib.hid (show Texts W3 w.heap.size u5 (wl D F k) from Seg.below HTX.out hb3)
      have HBW := Lib.hid (chain HBW.out hb3)
      clear hb3 c0 hbl
      by_cases hkn : isId D id
      · have HN := Lib.hid (upto_succ HU.out (HID.out.symm ▸ hkn))
        have hd : decide (isId D id) = true := decide_eq_true hkn
        have hws := wl_succ D F k
        rw [HID.out] at hws
        obtain ⟨s, hs⟩ : ∃ s, word D id = s := ⟨_, rfl⟩
        rw [hs] at hws
        obtain ⟨W4, hW4⟩ : ∃ Xz, W3.alloc (.cells #[.string s] 9) = Xz := ⟨_, rfl⟩
        obtain ⟨bn, hbn⟩ : ∃ xz, W3.heap.size = xz := ⟨_, rfl⟩
        have hb4 : Below W3.heap.size W3 W4 := by rw [← hW4]; exact (Below.refl _ _).alloc (Nat.le_refl _) _
        have HN4 := Lib.hid (by rw [← hW4, ← hbn]; exact alloc_new rfl : W4.heap[bn]? = some (.cells #[.string s] 9 (0, 0)))
        have EW4 := Lib.hid hW4
        have Ebn := Lib.hid hbn
        clear hW4 hbn
        have htx := HTX.out
        unfold Texts at htx
        rw [wl_len] at htx
        obtain ⟨v', A', hrun, hseg, hb5⟩ := next elemS (chain HBW.out hb4) (Seg.below htx hb4) (news := [.string s]) HN4.out rfl (by simp [Value.oneCell']) (by unfold maxLen; omega) (by omega) 29
        rw [← EW4.out, ← Ebn.out] at hrun
        have HRUN := Lib.hid hrun
        have HBW := Lib.hid hb5
        have HTX := Lib.hid (show Texts A' w.heap.size v' (wl D F (k + 1)) by
          unfold Texts
          rw [wl_len, hws, List.map_append]
          exact hseg)
        clear hrun hb5 hseg hb4 htx hws hkn
        rw [hs]
        clear hs
        go_wp2_with (at_builtin; refine append_run rfl rfl rfl rfl HRUN.out ?_)
        go_roundg (len - (k + 1))
        case measure => have := HG.out; omega
        case rel => exact ⟨k + 1, by omega, rfl, by go_num, HN.out, HTX.out, HBW.out⟩
      · have hd : decide (isId D id) = false := decide_eq_false hkn
        have HS := Lib.hid (upto_stop HU.out (HID.out.symm ▸ hkn) len hlt)
        clear hkn
        go_wp2_with fail
        refine bodyPost_ret (v := u5) (by simp [results, Tryd.results37, go_sem, *]) rfl (⟨_, rfl, by rw [← HRR.out, HS.out]; exact HTX.out, HBW.out⟩)
    · have hkl : k = len := by omega
      subst hkl
      go_wp2_with fail
      refine bodyPost_ret (v := u5) (by simp [results, Tryd.results37, go_sem, *]) rfl (⟨_, rfl, by rw [← HRR.out, HU.out]; exact HTX.out, HBW.out⟩)

theorem Texts.cells {w : World} {base : Nat} {v : Value} {l : List ByteArray} (h : Texts w base v l) : ∃ a c, v = .slice a l.length c ∧ l.length ≤ c ∧ (0 < l.length → ∃ g o, a = some ⟨g, o, none⟩ ∧ base ≤ g ∧ g < w.heap.size ∧ ∀ (j : Nat) x, l[j]? = some x → w.cell? ⟨g, o + j, none⟩ = some (.string x)) := by
  obtain ⟨a, c, rfl, h1, _, _⟩ := Seg.shape h
  refine ⟨a, c, rfl, h1, fun h0 => ?_⟩
  obtain ⟨g, o, rfl, h2, h3, h4⟩ := Seg.cells h h0
  exact ⟨g, o, rfl, h2, h3, fun j x hx => h4 j _ (by rw [List.getElem?_map, hx]; rfl)⟩

set_option maxHeartbeats 2000000 in
set_option maxRecDepth 100000 in
theorem Bytes_calls (w : World) (mb : Nat) (D : Dt) (hM : Mod w mb D) (a : Option Addr) (len cap : Nat) (F : Nat → Int) (hr : SameInt.Row w a len F) (hl : len ≤ 1000000) (hid : ∀ i, i < len → -9223372036854775808 ≤ F i ∧ F i ≤ 9223372036854775807) :
    Calls Tryd.prog 35 #[.pointer (some ⟨mb, 0, none⟩), .slice a len cap] w fun e w' => e = .returned (.tuple #[.string (txt D F (upto D F len)), .int .i64 (upto D F len)]) ∧ Below w.heap.size w w' := by
  have hz := txt_size (of_mod hM) F (upto D F len)
  have hule := upto_le D F len
  have HW := Lib.hid (Words_calls w mb D hM a len cap F hr hl hid)
  have hj := wl_join D F (upto D F len)
  have hln := wl_len D F (upto D F len)
  obtain ⟨R, hR⟩ : ∃ R, upto D F len = R := ⟨_, rfl⟩
  rw [hR] at HW hj hln hz hule ⊢
  obtain ⟨l, hll⟩ : ∃ l, wl D F R = l := ⟨_, rfl⟩
  rw [hll] at HW hj hln
  obtain ⟨T, hT⟩ : ∃ T, txt D F R = T := ⟨_, rfl⟩
  rw [hT] at hj hz ⊢
  have hjl : (Lib.join (l.map (·.data.toList)) []).length ≤ 140737488355328 := by
    rw [join_nil, hj]
    have : T.data.toList.length = T.size := by simp
    omega
  have hjt : (⟨(Lib.join (l.map (·.data.toList)) []).toArray⟩ : ByteArray) = T := by
    rw [join_nil, hj]
  subst hln
  have HJL := Lib.hid hjl
  have HJT := Lib.hid hjt
  clear hjl hjt hj hll hT hR
  go_enter Tryd.func35, Tryd.ntmps35
  go_wp2_with fail
  refine HW.out.mono ?_
  rintro e W1 ⟨v, rfl, htx, hb1⟩
  obtain ⟨av, cv, rfl, hcv, hcells⟩ := htx.cells
  have HC := Lib.hid hcells
  have HB := Lib.hid hb1
  clear htx hcells hb1
  have HJ := Lib.hid (show Calls Tryd.prog 76 #[.slice av l.length cv, .string ⟨#[]⟩] W1 fun e w' => e = .returned (.string T) ∧ Below W1.heap.size W1 w' from by
    rcases Nat.eq_zero_or_pos l.length with h0 | h0
    · have hl0 : l = [] := List.length_eq_zero_iff.1 h0
      have hT0 : T = ⟨#[]⟩ := by rw [← HJT.out, hl0]; rfl
      rw [h0, hT0]
      exact (ShelfJ.strings_Join_none av cv ⟨#[]⟩ W1).mono fun e w' ⟨h1, h2⟩ => ⟨h1, by rw [h2]; exact Below.refl _ _⟩
    · obtain ⟨g, o, rfl, _, h3, h4⟩ := HC.out h0
      have := ShelfJ.strings_Join g o cv l ⟨#[]⟩ W1 h4 h3 (by omega) hcv HJL.out
      rw [HJT.out] at this
      exact this)
  go_wp2_with fail
  refine HJ.out.mono ?_
  rintro e W2 ⟨rfl, hb2⟩
  have HB := Lib.hid (chain HB.out hb2)
  clear hb2
  go_wp2_with fail
  go_ret2
  exact ⟨rfl, HB.out⟩
end Go.Proofs.YtendkmldecoogaaDoor.Decode
