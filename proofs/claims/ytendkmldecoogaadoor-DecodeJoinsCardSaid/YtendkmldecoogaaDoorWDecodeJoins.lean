/-
  The walk of the law DecodeJoins.
-/
import Derived.Test.YtendkmldecoogaaDoorDecodeK
import Derived.Test.YtendkmldecoogaaDoorKeep
import Derived.Test.YtendkmldecoogaaDoorRowInt
namespace Go.Proofs.YtendkmldecoogaaDoor.decodeJoins
open Go Go.RowKit Go.Proofs.YtendkmldecoogaaDoor.Kit Go.Proofs.YtendkmldecoogaaDoor.Round Go.Proofs.YtendkmldecoogaaDoor.Seg Go.Proofs.YtendkmldecoogaaDoor.Collect Go.Proofs.YtendkmldecoogaaDoor.ItGo Go.Proofs.YtendkmldecoogaaDoor.Dt Go.Proofs.YtendkmldecoogaaDoor.MoNew Go.Proofs.YtendkmldecoogaaDoor.Good Go.Proofs.YtendkmldecoogaaDoor.Keep Go.Proofs.YtendkmldecoogaaDoor.RowInt Go.Proofs.YtendkmldecoogaaDoor.Decode Go.Proofs.YtendkmldecoogaaDoor.DecodeK
attribute [local irreducible] wpQuiet

theorem elemI : Elem Tryd.prog 59 3 (.int .i64 0) 1 8 := ⟨Tryd.underlying59, by kernel_rfl, rfl, by decide⟩

/-- The numbers of a row. -/
def ns (F : Nat → Int) (n : Nat) : List Value := (List.range n).map fun i => .int .i64 (F i)
theorem ns_len (F : Nat → Int) (n : Nat) : (ns F n).length = n := by simp [ns]
theorem ns_at {F : Nat → Int} {n j : Nat} {u : Value} (h : (ns F n)[j]? = some u) : j < n ∧ u = .int .i64 (F j) := by
  have hj : j < n := by
    have := (List.getElem?_eq_some_iff.1 h).1
    rwa [ns_len] at this
  refine ⟨hj, ?_⟩
  simp [ns, hj] at h
  exact h.symm
theorem ns_one {F : Nat → Int} {n : Nat} : ∀ u ∈ ns F n, u.oneCell' = true := fun u hu => by
  obtain ⟨i, _, rfl⟩ := List.mem_map.1 hu
  rfl
theorem src_row {w : World} {a : Option Addr} {n cap : Nat} {F : Nat → Int} (h : SameInt.Row w a n F) : Src w (.slice a n cap) n (ns F n) := by
  rcases h with rfl | ⟨b, off, rfl, hb, hc⟩
  · exact ⟨a, cap, rfl, fun _ => rfl, fun ad _ j u hu => absurd (ns_at hu).1 (Nat.not_lt_zero _)⟩
  · refine ⟨_, cap, rfl, fun h => (by cases h), fun ad had j u hu => ?_⟩
    cases had
    obtain ⟨hj, rfl⟩ := ns_at hu
    rw [add_plain]
    exact hc j hj

/-- One behind the other. -/
def both (n : Nat) (F G : Nat → Int) (i : Nat) : Int := if i < n then F i else G (i - n)

theorem seg_row {w : World} {base : Nat} {v : Value} {n m : Nat} {F G : Nat → Int} (h : Seg w base 3 1 v (n + m) (ns F n ++ ns G m)) : ∃ c d, v = .slice c (n + m) d ∧ SameInt.Row w c (n + m) (both n F G) := by
  rcases h.at' with ⟨rfl, h0⟩ | ⟨g, o, cap, cur, rfl, _, hg, _, _, _, h4⟩
  · obtain rfl : n = 0 := by omega
    obtain rfl : m = 0 := by omega
    exact ⟨none, 0, rfl, .inl rfl⟩
  · refine ⟨_, _, rfl, .inr ⟨g, o, rfl, lt_of_heap hg, fun i hi => ?_⟩⟩
    have h5 : (ns F n ++ ns G m)[i]? = some (.int .i64 (both n F G i)) := by
      unfold both
      split
      · rename_i hlt
        rw [List.getElem?_append_left (by rw [ns_len]; exact hlt)]
        simp [ns, hlt]
      · rename_i hlt
        rw [List.getElem?_append_right (by rw [ns_len]; omega), ns_len]
        simp [ns, show i - n < m by omega]
    rw [← h4, List.getElem?_take] at h5
    split at h5
    · rw [cell_at hg]
      simpa using h5
    · cases h5

/-- Two rows behind an empty one. -/
theorem two_rows {w : World} {a b : Option Addr} {n m capa capb : Nat} {F G : Nat → Int} (ha : SameInt.Row w a n F) (hb : SameInt.Row w b m G) (hn : n ≤ 200) (hm : m ≤ 200) (ty1 ty2 : TypeId) :
    ∃ v1 W1 v2 W2, (Builtin.append_ #[59, 59] ty1 #[.slice (some ⟨w.heap.size, 0, none⟩) 0 0, .slice a n capa]).run Tryd.prog (w.alloc (.cells #[] 3)) = .ok v1 W1 ∧ (Builtin.append_ #[59, 59] ty2 #[v1, .slice b m capb]).run Tryd.prog W1 = .ok v2 W2 ∧
      Below w.heap.size w W2 ∧ ∃ c d, v2 = .slice c (n + m) d ∧ SameInt.Row W2 c (n + m) (both n F G) := by
  obtain ⟨i, hi, hz0, hz1, hz2⟩ := elemI.parts
  have hb0 : Below w.heap.size w (w.alloc (.cells #[] 3)) := (Below.refl _ _).alloc (Nat.le_refl _) _
  have hg : (w.alloc (.cells #[] 3)).heap[w.heap.size]? = some (.cells #[] 3 (0, 0)) := alloc_new rfl
  have hs0 : Seg (w.alloc (.cells #[] 3)) w.heap.size 3 1 (.slice (some ⟨w.heap.size, 0, none⟩) 0 0) 0 [] := ⟨by simp, .inr ⟨_, 0, 0, #[], rfl, Nat.le_refl _, hg, Nat.le_refl _, Nat.zero_le _, by simp, by simp⟩⟩
  generalize w.alloc (.cells #[] 3) = W at hb0 hg hs0 ⊢
  obtain ⟨v1, W1, hr1, hap1, _⟩ := run_append_seg (P := Tryd.prog) W w.heap.size 59 ty1 3 i _ 1 8 elemI.t hi hz0 hz1 hz2 elemI.z elemI.p _ 0 [] hs0 _ n (ns F n) (by rw [ns_len]; omega) (src_row (cap := capa) (ha.below hb0)) ns_one (by unfold maxLen; omega) (by omega) hb0.size
  have hb1 : Below w.heap.size w W1 := hb0.trans (hap1.u.below hb0.size (fun b hb hh => by
    simp [Value.ownBlock] at hh
    omega))
  have hs1 := hap1.seg
  rw [List.nil_append, Nat.zero_add] at hs1
  obtain ⟨v2, W2, hr2, hap2, _⟩ := run_append_seg (P := Tryd.prog) W1 w.heap.size 59 ty2 3 i _ 1 8 elemI.t hi hz0 hz1 hz2 elemI.z elemI.p v1 n (ns F n) hs1 _ m (ns G m) (by rw [ns_len]; omega) (src_row (cap := capb) (hb.below hb1)) ns_one (by unfold maxLen; omega) (by omega) hb1.size
  have hb2 : Below w.heap.size w W2 := hb1.trans (hap2.u.below hb1.size (fun b hb hh => by
    have := (hs1.lt b hh).1
    omega))
  exact ⟨v1, W1, v2, W2, hr1, hr2, hb2, seg_row hap2.seg⟩

theorem both_upto {D : Dt} {n : Nat} {F G : Nat → Int} (h : ¬ upto D F n < n) : ∀ k, upto D (both n F G) (n + k) = n + upto D G k
  | 0 => by
    have := upto_le D F n
    rw [Nat.add_zero, upto_cong (G := F) (fun i hi => by unfold both; rw [if_pos hi])]
    show upto D F n = n + 0
    omega
  | k + 1 => by
    have ih := both_upto (G := G) h k
    have e : both n F G (n + k) = G k := by unfold both; rw [if_neg (by omega)]; congr 1; omega
    show (if upto D (both n F G) (n + k) = n + k ∧ isId D (both n F G (n + k)) then n + k + 1 else upto D (both n F G) (n + k)) = n + (if upto D G k = k ∧ isId D (G k) then k + 1 else upto D G k)
    rw [ih, e]
    by_cases hc : upto D G k = k ∧ isId D (G k)
    · rw [if_pos hc, if_pos ⟨by omega, hc.2⟩]
      omega
    · rw [if_neg hc, if_neg (fun h => hc ⟨by omega, h.2⟩)]
theorem both_txt {D : Dt} {n : Nat} {F G : Nat → Int} : ∀ k, txt D (both n F G) (n + k) = txt D F n ++ txt D G k
  | 0 => by
    rw [Nat.add_zero, txt_cong (G := F) (fun i hi => by unfold both; rw [if_pos hi])]
    simp [txt]
  | k + 1 => by
    have e : both n F G (n + k) = G k := by unfold both; rw [if_neg (by omega)]; congr 1; omega
    show txt D (both n F G) (n + k) ++ word D (both n F G (n + k)) = txt D F n ++ (txt D G k ++ word D (G k))
    rw [both_txt k, e, ByteArray.append_assoc]
/-- Where the first list has a stranger. -/
theorem both_stop {D : Dt} {n m : Nat} {F G : Nat → Int} (h : upto D F n < n) : upto D (both n F G) (n + m) = upto D F n ∧ txt D (both n F G) (upto D F n) = txt D F (upto D F n) := by
  have e : ∀ i, i < n → both n F G i = F i := fun i hi => by unfold both; rw [if_pos hi]
  refine ⟨?_, txt_cong (fun i hi => e i (by omega))⟩
  induction m with
  | zero => exact upto_cong e
  | succ k ih =>
    show (if upto D (both n F G) (n + k) = n + k ∧ isId D (both n F G (n + k)) then n + k + 1 else upto D (both n F G) (n + k)) = _
    rw [ih, if_neg (by omega)]
set_option maxHeartbeats 4000000 in
set_option maxRecDepth 100000 in
theorem walk (D : Dt) (p : Pl) (a : Option Addr) (lena capa : Nat) (za : List Int) (b : Option Addr) (lenb capb : Nat) (zb : List Int) (w : World) (hA : At w D p) (hra : IsRow .i64 w a lena capa za) (hla : lena ≤ 35184372088832) (hrb : IsRow .i64 w b lenb capb zb) (hlb : lenb ≤ 35184372088832) (hT : Tabs w) :
    Calls Tryd.prog 8 #[.agg #[.slice p.a0 D.nw p.c0, .slice p.a1 D.nm p.c1, .slice p.a2 D.n0 p.c2, .slice p.a3 D.n1 p.c3, .slice p.a4 D.n2 p.c4], .slice a lena capa, .slice b lenb capb] w fun e w' => e = .returned (.bool true) ∧ Below w.heap.size w w' := by
  obtain ⟨hra1, hra2⟩ := row_of hra
  obtain ⟨hrb1, hrb2⟩ := row_of hrb
  have hcapa : lena ≤ capa := by
    rcases hra with ⟨_, rfl, rfl, _⟩ | ⟨_, _, h, _⟩
    · exact Nat.le_refl _
    · exact h
  have hcapb : lenb ≤ capb := by
    rcases hrb with ⟨_, rfl, rfl, _⟩ | ⟨_, _, h, _⟩
    · exact Nat.le_refl _
    · exact h
  obtain ⟨F, hF⟩ : ∃ F : Nat → Int, (fun i => za.getD i 0) = F := ⟨_, rfl⟩
  have hF' : ∀ i, za.getD i 0 = F i := fun i => by rw [← hF]
  rw [hF] at hra1
  simp only [hF'] at hra2
  obtain ⟨G, hG⟩ : ∃ F : Nat → Int, (fun i => zb.getD i 0) = F := ⟨_, rfl⟩
  have hG' : ∀ i, zb.getD i 0 = G i := fun i => by rw [← hG]
  rw [hG] at hrb1
  simp only [hG'] at hrb2
  have HT := Lib.hid hT
  have H := Lib.hid hA
  have HRA := Lib.hid hra1
  have HIA := Lib.hid hra2
  have HRB := Lib.hid hrb1
  have HIB := Lib.hid hrb2
  clear hA hra hra1 hra2 hF hF' hT hrb hrb1 hrb2 hG hG'
  obtain ⟨W1, hW1⟩ : ∃ W1, w.alloc (.cells #[.slice p.a0 D.nw p.c0, .slice p.a1 D.nm p.c1, .slice p.a2 D.n0 p.c2, .slice p.a3 D.n1 p.c3, .slice p.a4 D.n2 p.c4] 33) = W1 := ⟨_, rfl⟩
  obtain ⟨hb1, hx1, ha1⟩ := Ref5a.boxed H.out hW1
  obtain ⟨xb, hxb⟩ : ∃ b, w.heap.size = b := ⟨_, rfl⟩
  rw [hxb] at hx1
  have HX := Lib.hid hx1
  have HA := Lib.hid ha1
  have HB := Lib.hid hb1
  have HRA := Lib.hid (HRA.out.below hb1)
  have HRB := Lib.hid (HRB.out.below hb1)
  clear H hx1 ha1 hb1
  have b0 := cell_at HX.out 0
  have b1 := cell_at HX.out 1
  have b2 := cell_at HX.out 2
  have b3 := cell_at HX.out 3
  have b4 := cell_at HX.out 4
  have bz := lt_of_heap HX.out
  simp only [List.getElem?_toArray, List.getElem?_cons_zero, List.getElem?_cons_succ] at b0 b1 b2 b3 b4
  go_enter Tryd.func8, Tryd.ntmps8
  go_wp2_with fail
  refine (Of_calls D p W1 HA.out).mono ?_
  clear hW1 hxb b0 b1 b2 b3 b4 bz
  rintro e W2 (⟨rfl, hb⟩ | ⟨mb, rfl, hm, hmb, hb, h300⟩)
  · have HB := Lib.hid (chain HB.out hb)
    clear hb
    go_wp2_with fail
    refine (known_calls W2 (HT.out.below HB.out)).mono ?_
    rintro e W3 ⟨rfl, hb⟩
    have HB := Lib.hid (chain HB.out hb)
    clear hb
    go_wp2_with fail
    go_ret
    exact ⟨rfl, HB.out⟩
  have HM := Lib.hid hm
  have HRA := Lib.hid (HRA.out.below hb)
  have HRB := Lib.hid (HRB.out.below hb)
  have HB := Lib.hid (chain HB.out hb)
  clear hb hm hmb h300 HX HA
  by_cases h2 : 200 < lena
  · have h2' : (200 : Int) < lena := by omega
    have hc2 : (200 : Int) ≤ capa := by omega
    by_cases h3 : 200 < lenb
    · have h3' : (200 : Int) < lenb := by omega
      have hc3 : (200 : Int) ≤ capb := by omega
      go_wp2_with fail
      have HRN := Lib.hid (HRA.out.mono (len' := 200) (by omega))
      have HIN := Lib.hid (fun i (hi : i < 200) => HIA.out i (by omega))
      have HRM := Lib.hid (HRB.out.mono (len' := 200) (by omega))
      have HIM := Lib.hid (fun i (hi : i < 200) => HIB.out i (by omega))
      obtain ⟨n, hn⟩ : ∃ n : Nat, 200 = n := ⟨_, rfl⟩
      have hn2 : n ≤ 200 := by omega
      rw [hn] at HRN HRM HIN HIM ⊢
      clear HRA HIA h2 h2' hcapa hla HRB HIB h3 h3' hcapb hlb hn
      have hup := upto_le D F n
      have huq := upto_le D G n
      have HJ := Lib.hid (fun (h : upto D F n < n) => both_stop (D := D) (F := F) (G := G) (m := n) h)
      have HJ2 := Lib.hid (fun (h : ¬ upto D F n < n) => (⟨both_upto (G := G) h n, by rw [both_upto (G := G) h n]; exact both_txt _⟩ : upto D (both n F G) (n + n) = n + upto D G n ∧ txt D (both n F G) (upto D (both n F G) (n + n)) = txt D F n ++ txt D G (upto D G n)))
      have HZ1 := Lib.hid (txt_size (of_mod HM.out) F (upto D F n))
      have HZ2 := Lib.hid (txt_size (of_mod HM.out) G (upto D G n))
      refine (Bytes_calls W2 mb D HM.out a n capa F HRN.out (by omega) HIN.out).mono ?_
      rintro e W3 ⟨rfl, hb3⟩
      have HM := Lib.hid (HM.out.below hb3)
      have HRN := Lib.hid (HRN.out.below hb3)
      have HRM := Lib.hid (HRM.out.below hb3)
      have HB := Lib.hid (chain HB.out hb3)
      clear hb3
      go_wp2_with fail
      refine (Bytes_calls W3 mb D HM.out b n capb G HRM.out (by omega) HIM.out).mono ?_
      rintro e W4 ⟨rfl, hb4⟩
      have HM := Lib.hid (HM.out.below hb4)
      have HRN := Lib.hid (HRN.out.below hb4)
      have HRM := Lib.hid (HRM.out.below hb4)
      have HB := Lib.hid (chain HB.out hb4)
      clear hb4
      obtain ⟨v1, W6, v2, W7, hr1, hr2, hb7, c, d, rfl, hrow⟩ := two_rows (capa := capa) (capb := capb) HRN.out HRM.out hn2 hn2 59 59
      have HR1 := Lib.hid hr1
      have HR2 := Lib.hid hr2
      have HROW := Lib.hid hrow
      have HM := Lib.hid (HM.out.below hb7)
      have HB := Lib.hid (chain HB.out hb7)
      clear hr1 hr2 hrow hb7
      go_wp2_with (at_builtin; first | refine append_run (t := 59) rfl rfl rfl rfl HR1.out ?_ | refine append_run (t := 59) rfl rfl rfl rfl HR2.out ?_)
      refine (Bytes_calls W7 mb D HM.out c (n + n) d (both n F G) HROW.out (by omega) (fun i hi => by
        unfold both
        split
        · exact HIN.out i (by omega)
        · exact HIM.out _ (by omega))).mono ?_
      rintro e W8 ⟨rfl, hb8⟩
      have HB := Lib.hid (chain HB.out hb8)
      clear hb8
      clear HR1 HR2 HROW HRN HRM HIN HIM HM
      by_cases hlt : upto D F n < n
      · obtain ⟨e1, e2⟩ := HJ.out hlt
        rw [e1, e2]
        clear e1 e2 HJ HJ2
        generalize upto D F n = k1 at hlt hup ⊢
        generalize txt D F k1 = s1
        go_wp2_with fail
        refine (known_calls W8 (HT.out.below HB.out)).mono ?_
        rintro e W9 ⟨rfl, hb9⟩
        have HB := Lib.hid (chain HB.out hb9)
        clear hb9
        go_wp2_with fail
        go_ret
        exact ⟨rfl, HB.out⟩
      · obtain ⟨e1, e2⟩ := HJ2.out hlt
        have hkn : upto D F n = n := by omega
        rw [e2, e1, hkn]
        have hz1 := HZ1.out
        have hz2 := HZ2.out
        rw [hkn] at hz1
        clear e1 e2 HJ HJ2 hlt hup HZ1 HZ2
        generalize upto D G n = k2 at huq hz2 ⊢
        generalize txt D F n = s1 at hz1 ⊢
        generalize txt D G k2 = s2 at hz2 ⊢
        have hadd : ∀ w, (Op.stringOp .add s1 s2).run Tryd.prog w = .ok (.string (s1 ++ s2)) w := fun w => run_string_add_sum w s1 s2 (by omega)
        generalize s1 ++ s2 = s3 at hadd ⊢
        go_wp2_with fail
        refine (known_calls W8 (HT.out.below HB.out)).mono ?_
        rintro e W9 ⟨rfl, hb9⟩
        have HB := Lib.hid (chain HB.out hb9)
        clear hb9
        go_wp2_with fail
        go_ret
        exact ⟨rfl, HB.out⟩
    · have h3' : ¬ ((200 : Int) < lenb) := by omega
      go_wp2_with fail
      have HRN := Lib.hid (HRA.out.mono (len' := 200) (by omega))
      have HIN := Lib.hid (fun i (hi : i < 200) => HIA.out i (by omega))
      have HRM := Lib.hid HRB.out
      have HIM := Lib.hid HIB.out
      obtain ⟨n, hn⟩ : ∃ n : Nat, 200 = n := ⟨_, rfl⟩
      have hn2 : n ≤ 200 := by omega
      rw [hn] at HRN HIN ⊢
      obtain ⟨m, hm⟩ : ∃ n : Nat, lenb = n := ⟨_, rfl⟩
      have hm2 : m ≤ 200 := by omega
      rw [hm] at HRM HIM ⊢
      clear HRA HIA h2 h2' hcapa hla HRB HIB h3 h3' hcapb hlb hn hm
      have hup := upto_le D F n
      have huq := upto_le D G m
      have HJ := Lib.hid (fun (h : upto D F n < n) => both_stop (D := D) (F := F) (G := G) (m := m) h)
      have HJ2 := Lib.hid (fun (h : ¬ upto D F n < n) => (⟨both_upto (G := G) h m, by rw [both_upto (G := G) h m]; exact both_txt _⟩ : upto D (both n F G) (n + m) = n + upto D G m ∧ txt D (both n F G) (upto D (both n F G) (n + m)) = txt D F n ++ txt D G (upto D G m)))
      have HZ1 := Lib.hid (txt_size (of_mod HM.out) F (upto D F n))
      have HZ2 := Lib.hid (txt_size (of_mod HM.out) G (upto D G m))
      refine (Bytes_calls W2 mb D HM.out a n capa F HRN.out (by omega) HIN.out).mono ?_
      rintro e W3 ⟨rfl, hb3⟩
      have HM := Lib.hid (HM.out.below hb3)
      have HRN := Lib.hid (HRN.out.below hb3)
      have HRM := Lib.hid (HRM.out.below hb3)
      have HB := Lib.hid (chain HB.out hb3)
      clear hb3
      go_wp2_with fail
      refine (Bytes_calls W3 mb D HM.out b m capb G HRM.out (by omega) HIM.out).mono ?_
      rintro e W4 ⟨rfl, hb4⟩
      have HM := Lib.hid (HM.out.below hb4)
      have HRN := Lib.hid (HRN.out.below hb4)
      have HRM := Lib.hid (HRM.out.below hb4)
      have HB := Lib.hid (chain HB.out hb4)
      clear hb4
      obtain ⟨v1, W6, v2, W7, hr1, hr2, hb7, c, d, rfl, hrow⟩ := two_rows (capa := capa) (capb := capb) HRN.out HRM.out hn2 hm2 59 59
      have HR1 := Lib.hid hr1
      have HR2 := Lib.hid hr2
      have HROW := Lib.hid hrow
      have HM := Lib.hid (HM.out.below hb7)
      have HB := Lib.hid (chain HB.out hb7)
      clear hr1 hr2 hrow hb7
      go_wp2_with (at_builtin; first | refine append_run (t := 59) rfl rfl rfl rfl HR1.out ?_ | refine append_run (t := 59) rfl rfl rfl rfl HR2.out ?_)
      refine (Bytes_calls W7 mb D HM.out c (n + m) d (both n F G) HROW.out (by omega) (fun i hi => by
        unfold both
        split
        · exact HIN.out i (by omega)
        · exact HIM.out _ (by omega))).mono ?_
      rintro e W8 ⟨rfl, hb8⟩
      have HB := Lib.hid (chain HB.out hb8)
      clear hb8
      clear HR1 HR2 HROW HRN HRM HIN HIM HM
      by_cases hlt : upto D F n < n
      · obtain ⟨e1, e2⟩ := HJ.out hlt
        rw [e1, e2]
        clear e1 e2 HJ HJ2
        generalize upto D F n = k1 at hlt hup ⊢
        generalize txt D F k1 = s1
        go_wp2_with fail
        refine (known_calls W8 (HT.out.below HB.out)).mono ?_
        rintro e W9 ⟨rfl, hb9⟩
        have HB := Lib.hid (chain HB.out hb9)
        clear hb9
        go_wp2_with fail
        go_ret
        exact ⟨rfl, HB.out⟩
      · obtain ⟨e1, e2⟩ := HJ2.out hlt
        have hkn : upto D F n = n := by omega
        rw [e2, e1, hkn]
        have hz1 := HZ1.out
        have hz2 := HZ2.out
        rw [hkn] at hz1
        clear e1 e2 HJ HJ2 hlt hup HZ1 HZ2
        generalize upto D G m = k2 at huq hz2 ⊢
        generalize txt D F n = s1 at hz1 ⊢
        generalize txt D G k2 = s2 at hz2 ⊢
        have hadd : ∀ w, (Op.stringOp .add s1 s2).run Tryd.prog w = .ok (.string (s1 ++ s2)) w := fun w => run_string_add_sum w s1 s2 (by omega)
        generalize s1 ++ s2 = s3 at hadd ⊢
        go_wp2_with fail
        refine (known_calls W8 (HT.out.below HB.out)).mono ?_
        rintro e W9 ⟨rfl, hb9⟩
        have HB := Lib.hid (chain HB.out hb9)
        clear hb9
        go_wp2_with fail
        go_ret
        exact ⟨rfl, HB.out⟩
  · have h2' : ¬ ((200 : Int) < lena) := by omega
    by_cases h3 : 200 < lenb
    · have h3' : (200 : Int) < lenb := by omega
      have hc3 : (200 : Int) ≤ capb := by omega
      go_wp2_with fail
      have HRN := Lib.hid HRA.out
      have HIN := Lib.hid HIA.out
      have HRM := Lib.hid (HRB.out.mono (len' := 200) (by omega))
      have HIM := Lib.hid (fun i (hi : i < 200) => HIB.out i (by omega))
      obtain ⟨n, hn⟩ : ∃ n : Nat, lena = n := ⟨_, rfl⟩
      have hn2 : n ≤ 200 := by omega
      rw [hn] at HRN HIN ⊢
      obtain ⟨m, hm⟩ : ∃ n : Nat, 200 = n := ⟨_, rfl⟩
      have hm2 : m ≤ 200 := by omega
      rw [hm] at HRM HIM ⊢
      clear HRA HIA h2 h2' hcapa hla HRB HIB h3 h3' hcapb hlb hn hm
      have hup := upto_le D F n
      have huq := upto_le D G m
      have HJ := Lib.hid (fun (h : upto D F n < n) => both_stop (D := D) (F := F) (G := G) (m := m) h)
      have HJ2 := Lib.hid (fun (h : ¬ upto D F n < n) => (⟨both_upto (G := G) h m, by rw [both_upto (G := G) h m]; exact both_txt _⟩ : upto D (both n F G) (n + m) = n + upto D G m ∧ txt D (both n F G) (upto D (both n F G) (n + m)) = txt D F n ++ txt D G (upto D G m)))
      have HZ1 := Lib.hid (txt_size (of_mod HM.out) F (upto D F n))
      have HZ2 := Lib.hid (txt_size (of_mod HM.out) G (upto D G m))
      refine (Bytes_calls W2 mb D HM.out a n capa F HRN.out (by omega) HIN.out).mono ?_
      rintro e W3 ⟨rfl, hb3⟩
      have HM := Lib.hid (HM.out.below hb3)
      have HRN := Lib.hid (HRN.out.below hb3)
      have HRM := Lib.hid (HRM.out.below hb3)
      have HB := Lib.hid (chain HB.out hb3)
      clear hb3
      go_wp2_with fail
      refine (Bytes_calls W3 mb D HM.out b m capb G HRM.out (by omega) HIM.out).mono ?_
      rintro e W4 ⟨rfl, hb4⟩
      have HM := Lib.hid (HM.out.below hb4)
      have HRN := Lib.hid (HRN.out.below hb4)
      have HRM := Lib.hid (HRM.out.below hb4)
      have HB := Lib.hid (chain HB.out hb4)
      clear hb4
      obtain ⟨v1, W6, v2, W7, hr1, hr2, hb7, c, d, rfl, hrow⟩ := two_rows (capa := capa) (capb := capb) HRN.out HRM.out hn2 hm2 59 59
      have HR1 := Lib.hid hr1
      have HR2 := Lib.hid hr2
      have HROW := Lib.hid hrow
      have HM := Lib.hid (HM.out.below hb7)
      have HB := Lib.hid (chain HB.out hb7)
      clear hr1 hr2 hrow hb7
      go_wp2_with (at_builtin; first | refine append_run (t := 59) rfl rfl rfl rfl HR1.out ?_ | refine append_run (t := 59) rfl rfl rfl rfl HR2.out ?_)
      refine (Bytes_calls W7 mb D HM.out c (n + m) d (both n F G) HROW.out (by omega) (fun i hi => by
        unfold both
        split
        · exact HIN.out i (by omega)
        · exact HIM.out _ (by omega))).mono ?_
      rintro e W8 ⟨rfl, hb8⟩
      have HB := Lib.hid (chain HB.out hb8)
      clear hb8
      clear HR1 HR2 HROW HRN HRM HIN HIM HM
      by_cases hlt : upto D F n < n
      · obtain ⟨e1, e2⟩ := HJ.out hlt
        rw [e1, e2]
        clear e1 e2 HJ HJ2
        generalize upto D F n = k1 at hlt hup ⊢
        generalize txt D F k1 = s1
        go_wp2_with fail
        refine (known_calls W8 (HT.out.below HB.out)).mono ?_
        rintro e W9 ⟨rfl, hb9⟩
        have HB := Lib.hid (chain HB.out hb9)
        clear hb9
        go_wp2_with fail
        go_ret
        exact ⟨rfl, HB.out⟩
      · obtain ⟨e1, e2⟩ := HJ2.out hlt
        have hkn : upto D F n = n := by omega
        rw [e2, e1, hkn]
        have hz1 := HZ1.out
        have hz2 := HZ2.out
        rw [hkn] at hz1
        clear e1 e2 HJ HJ2 hlt hup HZ1 HZ2
        generalize upto D G m = k2 at huq hz2 ⊢
        generalize txt D F n = s1 at hz1 ⊢
        generalize txt D G k2 = s2 at hz2 ⊢
        have hadd : ∀ w, (Op.stringOp .add s1 s2).run Tryd.prog w = .ok (.string (s1 ++ s2)) w := fun w => run_string_add_sum w s1 s2 (by omega)
        generalize s1 ++ s2 = s3 at hadd ⊢
        go_wp2_with fail
        refine (known_calls W8 (HT.out.below HB.out)).mono ?_
        rintro e W9 ⟨rfl, hb9⟩
        have HB := Lib.hid (chain HB.out hb9)
        clear hb9
        go_wp2_with fail
        go_ret
        exact ⟨rfl, HB.out⟩
    · have h3' : ¬ ((200 : Int) < lenb) := by omega
      go_wp2_with fail
      have HRN := Lib.hid HRA.out
      have HIN := Lib.hid HIA.out
      have HRM := Lib.hid HRB.out
      have HIM := Lib.hid HIB.out
      obtain ⟨n, hn⟩ : ∃ n : Nat, lena = n := ⟨_, rfl⟩
      have hn2 : n ≤ 200 := by omega
      rw [hn] at HRN HIN ⊢
      obtain ⟨m, hm⟩ : ∃ n : Nat, lenb = n := ⟨_, rfl⟩
      have hm2 : m ≤ 200 := by omega
      rw [hm] at HRM HIM ⊢
      clear HRA HIA h2 h2' hcapa hla HRB HIB h3 h3' hcapb hlb hn hm
      have hup := upto_le D F n
      have huq := upto_le D G m
      have HJ := Lib.hid (fun (h : upto D F n < n) => both_stop (D := D) (F := F) (G := G) (m := m) h)
      have HJ2 := Lib.hid (fun (h : ¬ upto D F n < n) => (⟨both_upto (G := G) h m, by rw [both_upto (G := G) h m]; exact both_txt _⟩ : upto D (both n F G) (n + m) = n + upto D G m ∧ txt D (both n F G) (upto D (both n F G) (n + m)) = txt D F n ++ txt D G (upto D G m)))
      have HZ1 := Lib.hid (txt_size (of_mod HM.out) F (upto D F n))
      have HZ2 := Lib.hid (txt_size (of_mod HM.out) G (upto D G m))
      refine (Bytes_calls W2 mb D HM.out a n capa F HRN.out (by omega) HIN.out).mono ?_
      rintro e W3 ⟨rfl, hb3⟩
      have HM := Lib.hid (HM.out.below hb3)
      have HRN := Lib.hid (HRN.out.below hb3)
      have HRM := Lib.hid (HRM.out.below hb3)
      have HB := Lib.hid (chain HB.out hb3)
      clear hb3
      go_wp2_with fail
      refine (Bytes_calls W3 mb D HM.out b m capb G HRM.out (by omega) HIM.out).mono ?_
      rintro e W4 ⟨rfl, hb4⟩
      have HM := Lib.hid (HM.out.below hb4)
      have HRN := Lib.hid (HRN.out.below hb4)
      have HRM := Lib.hid (HRM.out.below hb4)
      have HB := Lib.hid (chain HB.out hb4)
      clear hb4
      obtain ⟨v1, W6, v2, W7, hr1, hr2, hb7, c, d, rfl, hrow⟩ := two_rows (capa := capa) (capb := capb) HRN.out HRM.out hn2 hm2 59 59
      have HR1 := Lib.hid hr1
      have HR2 := Lib.hid hr2
      have HROW := Lib.hid hrow
      have HM := Lib.hid (HM.out.below hb7)
      have HB := Lib.hid (chain HB.out hb7)
      clear hr1 hr2 hrow hb7
      go_wp2_with (at_builtin; first | refine append_run (t := 59) rfl rfl rfl rfl HR1.out ?_ | refine append_run (t := 59) rfl rfl rfl rfl HR2.out ?_)
      refine (Bytes_calls W7 mb D HM.out c (n + m) d (both n F G) HROW.out (by omega) (fun i hi => by
        unfold both
        split
        · exact HIN.out i (by omega)
        · exact HIM.out _ (by omega))).mono ?_
      rintro e W8 ⟨rfl, hb8⟩
      have HB := Lib.hid (chain HB.out hb8)
      clear hb8
      clear HR1 HR2 HROW HRN HRM HIN HIM HM
      by_cases hlt : upto D F n < n
      · obtain ⟨e1, e2⟩ := HJ.out hlt
        rw [e1, e2]
        clear e1 e2 HJ HJ2
        generalize upto D F n = k1 at hlt hup ⊢
        generalize txt D F k1 = s1
        go_wp2_with fail
        refine (known_calls W8 (HT.out.below HB.out)).mono ?_
        rintro e W9 ⟨rfl, hb9⟩
        have HB := Lib.hid (chain HB.out hb9)
        clear hb9
        go_wp2_with fail
        go_ret
        exact ⟨rfl, HB.out⟩
      · obtain ⟨e1, e2⟩ := HJ2.out hlt
        have hkn : upto D F n = n := by omega
        rw [e2, e1, hkn]
        have hz1 := HZ1.out
        have hz2 := HZ2.out
        rw [hkn] at hz1
        clear e1 e2 HJ HJ2 hlt hup HZ1 HZ2
        generalize upto D G m = k2 at huq hz2 ⊢
        generalize txt D F n = s1 at hz1 ⊢
        generalize txt D G k2 = s2 at hz2 ⊢
        have hadd : ∀ w, (Op.stringOp .add s1 s2).run Tryd.prog w = .ok (.string (s1 ++ s2)) w := fun w => run_string_add_sum w s1 s2 (by omega)
        generalize s1 ++ s2 = s3 at hadd ⊢
        go_wp2_with fail
        refine (known_calls W8 (HT.out.below HB.out)).mono ?_
        rintro e W9 ⟨rfl, hb9⟩
        have HB := Lib.hid (chain HB.out hb9)
        clear hb9
        go_wp2_with fail
        go_ret
        exact ⟨rfl, HB.out⟩
end Go.Proofs.YtendkmldecoogaaDoor.decodeJoins
