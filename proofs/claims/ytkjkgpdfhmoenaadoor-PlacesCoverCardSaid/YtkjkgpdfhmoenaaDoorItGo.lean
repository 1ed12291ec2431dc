/-
  utf.first, utf.Items: items as values; the iterator.
-/
import Derived.Test.YtkjkgpdfhmoenaaDoorShelf
import Derived.Test.YtkjkgpdfhmoenaaDoorIt
import Derived.Test.YtkjkgpdfhmoenaaDoorRange
import Derived.Test.YtkjkgpdfhmoenaaDoorKit
namespace Go.Proofs.YtkjkgpdfhmoenaaDoor.ItGo
open Go Go.RowKit Go.Proofs.YtkjkgpdfhmoenaaDoor.Kit Go.Proofs.YtkjkgpdfhmoenaaDoor.Range Go.Proofs.YtkjkgpdfhmoenaaDoor.Utf Go.Proofs.YtkjkgpdfhmoenaaDoor.It
attribute [local irreducible] wpQuiet

/-- Go's two tables lie there. -/
def Tabs (w : World) : Prop := Lib.Utf8Tabs (Shelf.lays197_ren.g 3) (Shelf.lays197_ren.g 4) w
theorem Tabs.below {w w' : World} (h : Tabs w) (hb : Below w.heap.size w w') : Tabs w' := Utf8Tabs_below h hb

theorem Tabs.upd {S : Nat → Prop} {w w' : World} (h : Tabs w) (hu : Upd S w w') (h3 : ¬ S (Shelf.lays197_ren.g 3)) (h4 : ¬ S (Shelf.lays197_ren.g 4)) : Tabs w' := by
  have lt : ∀ {a : Addr} {v : Value}, w.cell? a = some v → a.block < w.heap.size := fun {a v} hc => by
    rcases Nat.lt_or_ge a.block w.heap.size with h' | h'
    · exact h'
    · simp [World.cell?, Array.getElem?_eq_none h'] at hc
  have k3 : ∀ {o : Nat} {v : Value}, w.cell? ⟨Shelf.lays197_ren.g 3, o, none⟩ = some v → w'.cell? ⟨Shelf.lays197_ren.g 3, o, none⟩ = some v := fun {o v} hc =>
    (World.cell?_of_block (a := ⟨_, o, none⟩) (hu.block _ (lt hc) h3)).trans hc
  have k4 : ∀ {o : Nat} {v : Value}, w.cell? ⟨Shelf.lays197_ren.g 4, o, none⟩ = some v → w'.cell? ⟨Shelf.lays197_ren.g 4, o, none⟩ = some v := fun {o v} hc =>
    (World.cell?_of_block (a := ⟨_, o, none⟩) (hu.block _ (lt hc) h4)).trans hc
  exact ⟨fun c hc => k3 (h.1 c hc), fun i hi => ⟨k4 (h.2 i hi).1, k4 (h.2 i hi).2⟩⟩

theorem Tabs.lt3 {w : World} (h : Tabs w) : Shelf.lays197_ren.g 3 < w.heap.size ∧ Shelf.lays197_ren.g 4 < w.heap.size :=
  ⟨lt_of_cell (h.1 0 (by decide)), lt_of_cell (h.2 0 (by decide)).1⟩

/-- An item as a value. -/
def encI (x : It) : Value := .agg #[.int .i64 x.from', .int .i64 x.bytes, .int .i32 x.rune, .bool x.bad]

theorem drop_list (s : ByteArray) (a b : Nat) (hb : b = s.size) : (s.extract a b).data.toList = s.data.toList.drop a := by
  subst hb
  have h1 : s.data.toList.length = s.size := by simp
  rw [ByteArray.data_extract, Array.toList_extract, List.extract_eq_take_drop, List.take_of_length_le]
  rw [List.length_drop]
  omega
theorem size_list (s : ByteArray) : s.data.toList.length = s.size := by simp
theorem rune_le (l : List UInt8) : (dec l).1 ≤ 1114111 := by
  have h0 := by_lt l 0
  have h1 := by_lt l 1
  have h2 := by_lt l 2
  have h3 := by_lt l 3
  unfold dec
  rcases width_cases l with ⟨h, q⟩ | ⟨h, q⟩ | ⟨h, q⟩ | ⟨h, q1, q2, q3, q4, _⟩ | ⟨h, q⟩
  · simp [h, rune]; omega
  · simp [h, rune]; omega
  · simp [h, rune]; omega
  · rw [ok1] at q4; simp [h, rune]; omega
  · simp [h]

set_option maxRecDepth 100000 in
theorem first_calls (s : ByteArray) (a : Nat) (w : World) (hs : 0 < s.size) (hT : Tabs w) :
    Calls Tryd.prog 58 #[.string s, .int .i64 a] w fun e w' => e = .returned (encI (one a s.data.toList)) ∧ Below w.heap.size w w' := by
  have hne : s.data.toList ≠ [] := by
    intro h
    have := size_list s
    rw [h] at this
    simp at this
    omega
  have hD := decode_dec s hs
  have hle := one_le a hne
  have hpos := one_pos a s.data.toList
  have hr := rune_le s.data.toList
  rw [size_list] at hle
  obtain ⟨W1, hW1⟩ : ∃ Xz, w.alloc (.cells #[.int .i64 0, .int .i64 0, .int .i32 0, .bool false] 60) = Xz := ⟨_, rfl⟩
  obtain ⟨rb, hrb⟩ : ∃ xz, w.heap.size = xz := ⟨_, rfl⟩
  have hb : Below w.heap.size w W1 := by rw [← hW1]; exact (Below.refl _ _).alloc (Nat.le_refl _) _
  have H := Lib.hid (by rw [← hW1, ← hrb]; exact alloc_new rfl : W1.heap[rb]? = some (.cells #[.int .i64 0, .int .i64 0, .int .i32 0, .bool false] 60 (0, 0)))
  have EW1 := Lib.hid hW1
  have Erb := Lib.hid hrb
  clear hW1 hrb
  have hC := Shelf.utf8_DecodeRuneInString s W1 (hT.below hb)
  have hg : Lib.decodeGo s = dec s.data.toList := by unfold Lib.decodeGo; rw [if_neg (by omega), hD]
  rw [hg] at hC
  have hwz : (dec s.data.toList).2 = (one a s.data.toList).bytes := rfl
  obtain ⟨x, hx⟩ : ∃ x, one a s.data.toList = x := ⟨_, rfl⟩
  have hx1 : (dec s.data.toList).1 = x.rune := by rw [← hx]; rfl
  have hx2 : (dec s.data.toList).2 = x.bytes := by rw [← hx]; rfl
  have hx3 : x.bad = (decide (x.rune = 65533) && decide (x.bytes = 1)) := by
    rw [← hx1, ← hx2, ← hx]
    show decide (width s.data.toList = 0) = _
    unfold dec
    by_cases h0 : width s.data.toList = 0
    · simp [h0]
    · rw [if_neg h0]
      have : ¬ (rune s.data.toList (width s.data.toList) = 65533 ∧ width s.data.toList = 1) := by
        rintro ⟨h1, h2⟩
        rw [h2] at h1
        have := by_lt s.data.toList 0
        simp only [rune, if_true] at h1
        omega
      rw [← Bool.decide_and, decide_eq_false this, decide_eq_false h0]
  have hx4 : x.from' = a := by rw [← hx]; rfl
  rw [hx1, hx2] at hC
  rw [hx1] at hr
  rw [hx] at hle hpos
  have HC := Lib.hid hC
  have HB := Lib.hid hb
  have HX := Lib.hid hx
  clear hD hC hg hwz hx1 hx2 hx hT hb hne
  go_enter Tryd.func58, Tryd.ntmps58
  go_upto_region 1 with fail
  rw [EW1.out, Erb.out]
  go_wp2_with fail
  refine HC.out.mono ?_
  rintro e W2 ⟨rfl, hb2⟩
  have H := Lib.hid ((hb2.block _ (lt_of_heap H.out)).trans H.out)
  have HB := Lib.hid (chain HB.out hb2)
  have c0 := cell_at H.out 0
  have c1 := cell_at H.out 1
  have c2 := cell_at H.out 2
  have c3 := cell_at H.out 3
  have cf := free_all H.out
  have cz := lt_of_heap H.out
  simp only [List.getElem?_toArray, List.getElem?_cons_zero, List.getElem?_cons_succ] at c0 c1 c2 c3
  have hsz : w.heap.size ≤ rb := by rw [Erb.out]; exact Nat.le_refl _
  clear hb2
  by_cases h1 : x.rune = 65533
  · have hq : encI x = .agg #[.int .i64 a, .int .i64 x.bytes, .int .i32 65533, .bool ((x.bytes : Int) == 1)] := by
      unfold encI
      rw [hx4, h1, hx3, h1]
      by_cases h2 : x.bytes = 1
      · simp [h2]
      · have : ((x.bytes : Int) == 1) = false := by simp; omega
        simp [h2, this]
    have HQ := Lib.hid hq.symm
    rw [h1]
    clear h1 hq hx3 hx4
    go_wp2_with fail
    have hB := HB.out
    refine bodyPost_ret (v := .agg #[.int .i64 a, .int .i64 x.bytes, .int .i32 65533, .bool ((x.bytes : Int) == 1)]) (by simp [results, Tryd.results58, go_sem, *]) rfl ⟨?_, ?_⟩
    · rw [HX.out, HQ.out]
    · repeat (first | exact hB | refine Below.setCell ?_ (by first | omega | (have := hB.size; simp; omega)) _ | refine Below.alloc ?_ (by have := hB.size; simp; omega) _ | refine Below.drew ?_)
  · have h1z : ((x.rune : Int) == 65533) = false := by simp; omega
    have hq : encI x = .agg #[.int .i64 a, .int .i64 x.bytes, .int .i32 x.rune, .bool false] := by
      unfold encI
      rw [hx4, hx3]
      simp [h1]
    have HQ := Lib.hid hq.symm
    clear h1 hq hx3 hx4
    go_wp2_with fail
    have hB := HB.out
    refine bodyPost_ret (v := .agg #[.int .i64 a, .int .i64 x.bytes, .int .i32 x.rune, .bool false]) (by simp [results, Tryd.results58, go_sem, *]) rfl ⟨?_, ?_⟩
    · rw [HX.out, HQ.out]
    · repeat (first | exact hB | refine Below.setCell ?_ (by first | omega | (have := hB.size; simp; omega)) _ | refine Below.alloc ?_ (by have := hB.size; simp; omega) _ | refine Below.drew ?_)

theorem Items_calls (s : ByteArray) (w : World) : Calls Tryd.prog 28 #[.string s] w fun e w' =>
    e = .returned (.func (.func 57) #[] #[.pointer (some ⟨w.heap.size, 0, none⟩)]) ∧ w.alloc (.cells #[.string s] 9) = w' := by
  have hmf : ∀ (fn : Fn) (first cap : Array Value) (w : World), (Instr.makeFunc fn first cap).run Tryd.prog w = .ok (.func fn first cap) w := fun _ _ _ _ => rfl
  go_enter Tryd.func28, Tryd.ntmps28
  go_wp2
  go_ret
  exact ⟨rfl, rfl⟩

set_option maxHeartbeats 1000000 in
set_option maxRecDepth 100000 in
theorem items_iter (w0 : World) (xb : Nat) (s : ByteArray) (hx : w0.heap[xb]? = some (.cells #[.string s] 9 (0, 0))) (hT : Tabs w0) (hl : s.size ≤ 140737488355328) :
    Iter Tryd.prog 57 #[.pointer (some ⟨xb, 0, none⟩)] (fun k => #[encI ((items 0 s.data.toList).getD k default)]) (items 0 s.data.toList).length (fun b => b = xb ∨ b = Shelf.lays197_ren.g 3 ∨ b = Shelf.lays197_ren.g 4) w0 := by
  intro l J Jx W hW hJ hJx hS hY S0 h0
  have HJ := Lib.hid hJ
  have HJx := Lib.hid hJx
  have HS := Lib.hid hS
  have HY := Lib.hid hY
  have HT := Lib.hid (hT.below hW)
  have HX := Lib.hid ((hW.block xb (lt_of_heap hx)).trans hx)
  obtain ⟨T, hT⟩ : ∃ T, items 0 s.data.toList = T := ⟨_, rfl⟩
  have HTT := Lib.hid hT
  rw [hT] at HY ⊢
  clear hW hJ hJx hS hY hx hT
  refine callsIn_wide.2 ?_
  have H0 := Lib.hid h0
  clear h0
  go_enter Tryd.func57, Tryd.ntmps57
  go_wp2_with fail
  go_loopg [3] s.size (fun g s3 wr => ∃ (a k : Nat) (S : Nat → Prop), a ≤ s.size ∧ g = s.size - a ∧ s3 = .int .i64 a ∧ J k S wr ∧ k ≤ T.length ∧ T.drop k = items a (s.data.toList.drop a) ∧ Tabs wr ∧ wr.heap[xb]? = some (.cells #[.string s] 9 (0, 0)))
  case atStart => exact ⟨0, 0, S0, Nat.zero_le _, by omega, rfl, H0.out, Nat.zero_le _, HTT.out.symm, HT.out, HX.out⟩
  case round =>
    obtain ⟨a, k, S, ha, hg, rfl, hj, hk, hd, ht, hx⟩ := hrel
    have HG := Lib.hid hg
    have HJK := Lib.hid hj
    have HD := Lib.hid hd
    have HT := Lib.hid ht
    have HX := Lib.hid hx
    clear hg hj hd ht hx
    have x0 := cell_at HX.out 0
    have xz := lt_of_heap HX.out
    simp only [List.getElem?_toArray, List.getElem?_cons_zero] at x0
    by_cases hlt : a < s.size
    · have hlti : (a : Int) < s.size := by omega
      obtain ⟨x, hxx⟩ : ∃ x, one a (s.data.toList.drop a) = x := ⟨_, rfl⟩
      have hsz := size_list s
      have hne : s.data.toList.drop a ≠ [] := by
        intro h
        rw [List.drop_eq_nil_iff] at h
        omega
      have hC := fun W2 hT => first_calls (s.extract a s.size) a W2 (by simp; omega) hT
      rw [drop_list s a s.size rfl, hxx] at hC
      unfold encI at hC
      have hD := HD.out
      rw [items_cons a hne, hxx, List.drop_drop] at hD
      have hxl := one_le a hne
      have hxp := one_pos a (s.data.toList.drop a)
      rw [hxx, List.length_drop, hsz] at hxl
      rw [hxx] at hxp
      have hklt : k < T.length := by
        rcases Nat.lt_or_ge k T.length with h | h
        · exact h
        · rw [List.drop_eq_nil_of_le h] at hD
          cases hD
      rw [List.drop_eq_getElem_cons hklt, List.cons.injEq] at hD
      have hTk : T.getD k default = x := by
        rw [List.getD, List.getElem?_eq_getElem hklt, ← hD.1]
        rfl
      have HD2 := Lib.hid hD.2
      have HC := Lib.hid hC
      have HXL := Lib.hid (And.intro hxp hxl)
      have HTK := Lib.hid hTk
      clear hC hD hxl hne hxp hTk
      go_wp2_with fail
      refine (HC.out wr HT.out).mono ?_
      rintro e W2 ⟨rfl, hb2⟩
      obtain ⟨W3, hW3⟩ : ∃ Xz, W2.alloc (.cells #[.int .i64 x.from', .int .i64 x.bytes, .int .i32 x.rune, .bool x.bad] 60) = Xz := ⟨_, rfl⟩
      obtain ⟨b5, hb5⟩ : ∃ xz, W2.heap.size = xz := ⟨_, rfl⟩
      have hb3 : Below W2.heap.size W2 W3 := by rw [← hW3]; exact (Below.refl _ _).alloc (Nat.le_refl _) _
      have H5 := Lib.hid (by rw [← hW3, ← hb5]; exact alloc_new rfl : W3.heap[b5]? = some (.cells #[.int .i64 x.from', .int .i64 x.bytes, .int .i32 x.rune, .bool x.bad] 60 (0, 0)))
      have EW3 := Lib.hid hW3
      have Eb5 := Lib.hid hb5
      clear hW3 hb5
      have hb03 := chain hb2 hb3
      have HJ3 := Lib.hid (HJ.out k S wr W3 HJK.out (.of_below hb03))
      have HX := Lib.hid ((hb03.block _ (lt_of_heap HX.out)).trans HX.out)
      have HT := Lib.hid (HT.out.below hb03)
      have hn5 : ¬ S b5 := fun h => by
        have h1 := ((HS.out k S wr HJK.out).2 b5 h).1
        have h2 := hb2.size
        have h3 := Eb5.out
        omega
      have HN5 := Lib.hid hn5
      have h5x : b5 ≠ xb := fun h => by
        have h1 := hb2.size
        have h3 := Eb5.out
        omega
      clear hb2 hb3 hb03 hn5 x0 xz
      go_upto_region 3 with fail
      rw [EW3.out, Eb5.out]
      obtain ⟨fn, tmps, assign, body, hy, hrd⟩ := HY.out k S W3 hklt HJ3.out
      rw [HTK.out] at hy
      unfold encI at hy
      have HRD := Lib.hid hrd
      clear hrd
      have f0 := cell_at H5.out 0
      have f1 := cell_at H5.out 1
      have f2 := cell_at H5.out 2
      have f3 := cell_at H5.out 3
      have fz := lt_of_heap H5.out
      simp only [List.getElem?_toArray, List.getElem?_cons_zero, List.getElem?_cons_succ] at f0 f1 f2 f3
      refine (wpIn_wide (n := 0)).1 ?_
      gi_wp2_with fail
      refine ⟨rfl, HRD.out.mono ?_⟩
      rintro e B (⟨rfl, S2, hj, hu, hs⟩ | ⟨rfl, S2, hj, hu, hs⟩)
      · have hcap := (HS.out k S W3 HJ3.out).2
        have HJ4 := Lib.hid hj
        have HX2 := Lib.hid ((hu.block xb (lt_of_heap HX.out) (fun h => (hcap _ h).2 (.inl rfl))).trans HX.out)
        have HT2 := Lib.hid (Tabs.upd HT.out hu (fun h => (hcap _ h).2 (.inr (.inl rfl))) (fun h => (hcap _ h).2 (.inr (.inr rfl))))
        have H56 := Lib.hid ((hu.block b5 (lt_of_heap H5.out) HN5.out).trans H5.out)
        clear hcap hj hu hs f0 f1 f2 f3 fz hy
        have f0 := cell_at H56.out 0
        have f1 := cell_at H56.out 1
        have f2 := cell_at H56.out 2
        have f3 := cell_at H56.out 3
        have fz := lt_of_heap H56.out
        simp only [List.getElem?_toArray, List.getElem?_cons_zero, List.getElem?_cons_succ] at f0 f1 f2 f3
        gi_wp2
        go_wp2_with fail
        obtain ⟨hx1, hx2⟩ := HXL.out
        have hgg := HG.out
        go_roundg (s.size - (a + x.bytes))
        case measure => omega
        case rel => exact ⟨a + x.bytes, k + 1, S2, by omega, rfl, congrArg (Value.int .i64) (IntWalk.wrap64_in ((a : Int) + x.bytes) (by omega)), HJ4.out, hklt, HD2.out, HT2.out, HX2.out⟩
      · have HJ4 := Lib.hid hj
        clear hj hu hs
        gi_wp2
        go_wp2_with fail
        refine bodyPost_ret (results_none rfl _ _ _) rfl ?_
        exact ⟨⟨_, rfl⟩, .inr ⟨k, S2, hklt, HJ4.out⟩⟩
    · have hil : a = s.size := by omega
      subst hil
      have hD := HD.out
      rw [show s.data.toList.drop s.size = [] from List.drop_eq_nil_iff.2 (by rw [size_list]; exact Nat.le_refl _), items_nil] at hD
      have hkT : k = T.length := by
        rcases Nat.lt_or_ge k T.length with h | h
        · rw [List.drop_eq_getElem_cons h] at hD
          cases hD
        · omega
      have HK := Lib.hid hkT
      clear hD hkT
      go_wp2_with fail
      go_end0
      rw [← HK.out]
      exact ⟨⟨_, rfl⟩, .inl ⟨S, HJK.out⟩⟩
end Go.Proofs.YtkjkgpdfhmoenaaDoor.ItGo
