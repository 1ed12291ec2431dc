/-
  The walk of the law LruKept.
-/
import Derived.Test.YtgddlcbaieclcaaLruAcc
import Derived.Test.YtgddlcbaieclcaaLruOpen
import Derived.Test.YtgddlcbaieclcaaLruKnown
import Derived.Test.YtgddlcbaieclcaaBookAKey
namespace Go.Proofs.Ytgddlcbaieclcaa.lruKept
open Go Go.RowKit Go.Proofs.Ytgddlcbaieclcaa.Kit Go.Proofs.Ytgddlcbaieclcaa.LruOpen Go.Proofs.Ytgddlcbaieclcaa.BookKey
attribute [local irreducible] wpQuiet

theorem seg_type {w : World} : ∀ {L : List LruK.En} {p q : Option Nat}, LruK.Seg w p L q → ∀ b, b ∈ L.map (·.2.2) → ∃ cs, w.heap[b]? = some (.cells cs 140 (0, 0))
  | [], _, _, _, b, hb => by cases hb
  | e :: L, _, _, h, b, hb => by
    rw [List.map_cons, List.mem_cons] at hb
    rcases hb with rfl | hb
    · exact ⟨_, h.1⟩
    · exact seg_type h.2 b hb

/-- A cache's blocks are of other types than a book's. -/
theorem other {w : World} {c most : Nat} {kv : List (LruK.Ky × Value)} {F : Nat → Prop} (h : LruabsK.IsC w c most kv F) {b : Nat} {cs : Array Value} {ty : TypeId} (hb : F b) (hc : w.heap[b]? = some (.cells cs ty (0, 0))) :
    ty ≠ 73 ∧ ty ≠ 82 ∧ ty ≠ 89 := by
  obtain ⟨mb, cnt, L, M, h, rfl, hF⟩ := h
  have h1 := (hF b).1 hb
  simp only [List.mem_cons] at h1
  rcases h1 with rfl | rfl | h1
  · rw [h.cache] at hc
    simp only [Option.some.injEq, Obj.cells.injEq] at hc
    rw [← hc.2.1]
    decide
  · rw [h.map] at hc
    simp at hc
  · obtain ⟨cs', h2⟩ := seg_type h.seg b h1
    rw [h2] at hc
    simp only [Option.some.injEq, Obj.cells.injEq] at hc
    rw [← hc.2.1]
    decide

/-- Keys, as a list for a book. -/
def Listed (n : Nat) (w : World) (x : Ending) (w' : World) : Prop := ∃ v xs, x = .returned v ∧ Seg.Seg w' w.heap.size 73 2 v n xs ∧ Shaped n xs ∧ Below w.heap.size w w'
theorem keys {w : World} {c most : Nat} {kv : List (LruK.Ky × Value)} {F : Nat → Prop} (h : LruabsK.IsC w c most kv F) (hl : kv.length ≤ 4096) :
    Calls Try.prog 45 #[.pointer (some ⟨c, 0, none⟩)] w (Listed kv.length w) := by
  obtain ⟨mb, cnt, L, M, h, rfl, hF⟩ := h
  refine (LrukeysK.Keys_calls c mb most cnt L M w h (by simpa using hl)).mono ?_
  rintro x w' ⟨v, rfl, ho, hb⟩
  rw [List.length_map]
  refine ⟨v, _, rfl, Seg.Seg.of_owns ho, ⟨fun i hi => ⟨_, _, LruabsK.flat_at L i hi⟩, fun u hu => ?_⟩, hb⟩
  unfold LrukeysK.flat at hu
  obtain ⟨e, _, he⟩ := List.mem_flatMap.1 hu
  simp at he
  rcases he with rfl | rfl <;> rfl

set_option maxRecDepth 100000 in
theorem mark_calls (i j : Nat) (w : World) (hi : i ≤ 10000000) (hj : j ≤ maxLen) : Calls Try.prog 50 #[.int .i64 i, .int .i64 j] w fun e w' => e = .returned (.agg #[.int .i64 (-100 - (i : Int)), .int .i64 (-(j : Int))]) ∧ Below w.heap.size w w' := by
  have hj2 : j ≤ 9223372036854775807 := by unfold maxLen at hj; omega
  have w1 : IntKind.i64.wrap (-100 - (i : Int)) = -100 - (i : Int) := i64w _ (by omega) (by omega)
  have w2 : IntKind.i64.wrap (-(j : Int)) = -(j : Int) := i64w _ (by omega) (by omega)
  obtain ⟨W1, hW1⟩ : ∃ Xz, w.alloc (.cells #[.int .i64 (-100 - (i : Int)), .int .i64 (-(j : Int))] 73) = Xz := ⟨_, rfl⟩
  obtain ⟨rb, hrb⟩ : ∃ xz, w.heap.size = xz := ⟨_, rfl⟩
  have hb1 : Below w.heap.size w W1 := by rw [← hW1]; exact (Below.refl _ _).alloc (Nat.le_refl _) _
  have HR := Lib.hid (by rw [← hW1, ← hrb]; exact alloc_new rfl : W1.heap[rb]? = some (.cells #[.int .i64 (-100 - (i : Int)), .int .i64 (-(j : Int))] 73 (0, 0)))
  have EW1 := Lib.hid hW1
  have Erb := Lib.hid hrb
  clear hW1 hrb
  have HB := Lib.hid hb1
  clear hb1
  have r0 := cell_at HR.out 0
  have r1 := cell_at HR.out 1
  have rz := lt_of_heap HR.out
  simp only [List.getElem?_toArray, List.getElem?_cons_zero, List.getElem?_cons_succ] at r0 r1
  go_enter Try.func50, Try.ntmps50
  go_wp2_with fail
  rw [EW1.out, Erb.out]
  refine bodyPost_ret (v := .agg #[.int .i64 (-100 - (i : Int)), .int .i64 (-(j : Int))]) (by simp [results, Try.results50, go_sem, *]) rfl (⟨rfl, by have := HB.out; rw [Erb.out] at this; exact this⟩)

theorem fresh {W W' : World} {base bb n : Nat} {L : List Rec} {lv wv v : Value} {held : Int} {xs : List Value} (h : Bk W base bb L lv wv held) (hv : Seg.Seg W' W.heap.size 73 2 v n xs) : ∀ r, r ∈ L → ∀ b, r.v.ownBlock = some b → v.ownBlock ≠ some b := fun r hr b hb hvb => by
  have h1 := ((h.vs r hr).1.lt b hb).2
  have h2 := (hv.lt b hvb).1
  omega

/-- A cache stays where a book's words are at work. -/
theorem mine_no {W : World} {base bb c most : Nat} {kv : List (LruK.Ky × Value)} {F : Nat → Prop} {L : List Rec} {lv wv : Value} {held : Int} (h : LruAcc.Fine W c most kv F) (hk : Bk W base bb L lv wv held) : ∀ i, i < W.heap.size → Mine W base bb i → ¬ F i := fun i _ hm hF => by
  rcases hm.2 with rfl | ⟨cs, hc⟩
  · exact (other h.1 hF hk.bk).2.2 rfl
  · exact (other h.1 hF hc).2.1 rfl

theorem apart_no {W : World} {base bb c most : Nat} {kv : List (LruK.Ky × Value)} {F : Nat → Prop} {L : List Rec} {lv wv : Value} {held : Int} (h : LruAcc.Fine W c most kv F) (hk : Bk W base bb L lv wv held) : ∀ i, i < W.heap.size → (i = bb ∨ ∃ r, r ∈ L ∧ r.v.ownBlock = some i) → ¬ F i := fun i _ hm hF => by
  rcases hm with rfl | ⟨r, hr, ho⟩
  · exact (other h.1 hF hk.bk).2.2 rfl
  · obtain ⟨cs, hc⟩ := seg_block (hk.vs r hr).1 ho
    exact (other h.1 hF hc).1 rfl

set_option maxHeartbeats 4000000 in
set_option maxRecDepth 100000 in
theorem walk (a : Option Addr) (len cap : Nat) (f : Nat → Play) (w : World) (hr : Row w a len f) (hl : len ≤ 35184372088832) :
    Calls Try.prog 12 #[.slice a len cap] w fun x w' => x = .returned (.bool true) ∧ Below w.heap.size w w' := by
  have HR0 := Lib.hid hr
  clear hr
  go_enter Try.func12, Try.ntmps12
  go_wp2_with fail
  refine (LruabsK.new 5 w (by decide) (by decide)).mono ?_
  rintro e w1 ⟨c, F1, rfl, h1, hf1, hb1⟩
  have HS1 := Lib.hid (show LruAcc.Fine w1 c 5 [] F1 from ⟨h1, Nat.zero_le _⟩)
  have HF1 := Lib.hid hf1
  have HB1 := Lib.hid hb1
  clear h1 hf1 hb1
  obtain ⟨base, hbase⟩ : ∃ z, w1.heap.size = z := ⟨_, rfl⟩
  obtain ⟨W3, hW3⟩ : ∃ Xz, w1.alloc (.cells #[.slice none 0 0, .slice none 0 0, .int .i64 0, .bool false] 89) = Xz := ⟨_, rfl⟩
  obtain ⟨bb, hbb⟩ : ∃ xz, w1.heap.size = xz := ⟨_, rfl⟩
  have hb3 : Below w1.heap.size w1 W3 := by rw [← hW3]; exact (Below.refl _ _).alloc (Nat.le_refl _) _
  have HBB := Lib.hid (by rw [← hW3, ← hbb]; exact alloc_new rfl : W3.heap[bb]? = some (.cells #[.slice none 0 0, .slice none 0 0, .int .i64 0, .bool false] 89 (0, 0)))
  have EW3 := Lib.hid hW3
  have Ebb := Lib.hid hbb
  clear hW3 hbb
  have HK := Lib.hid (show Bk W3 base bb [] (.slice none 0 0) (.slice none 0 0) 0 from ⟨by rw [← hbase, ← Ebb.out]; exact Nat.le_refl _, HBB.out, Seg.Seg.nil _ _ _ _, Seg.Seg.nil _ _ _ _, fun b h => (by simp [Value.ownBlock] at h), fun r hr => (by cases hr), List.Pairwise.nil⟩)
  have HS3 := Lib.hid (HS1.out.below hb3)
  have HW3 := Lib.hid (chain HB1.out hb3)
  have hz : base ≤ W3.heap.size := by rw [← hbase]; exact hb3.size
  have hwb : w.heap.size ≤ base := by rw [← hbase]; exact HB1.out.size
  clear hb3 hbase HBB
  go_wp2_with fail
  rw [EW3.out, Ebb.out]
  go_loopg [6] 60 (fun g s6 wr => ∃ (k : Nat) (L : List Rec) (lv wv : Value) (held : Int) (kv : List (LruK.Ky × Value)) (F : Nat → Prop), k ≤ len ∧ k ≤ 60 ∧ g = 60 - k ∧ s6 = .int .i64 k ∧ Bk wr base bb L lv wv held ∧ L.length ≤ 2 * k ∧ LruAcc.Fine wr c 5 kv F ∧ (∀ i, F i → w.heap.size ≤ i) ∧ Below w.heap.size w wr ∧ base ≤ wr.heap.size)
  case atStart => exact ⟨0, [], _, _, _, [], F1, Nat.zero_le _, by omega, rfl, rfl, HK.out, Nat.le_refl _, HS3.out, HF1.out, HW3.out, hz⟩
  case round =>
    obtain ⟨k, L, lv, wv, held, kv, F, hk, hk2, hg, rfl, hbk, hLk, hS, hF, hbw, hbz⟩ := hrel
    have HFO := Lib.hid hF
    have HG := Lib.hid hg
    have HK := Lib.hid hbk
    have HS := Lib.hid hS
    have HR := Lib.hid (HR0.out.below hbw)
    have HBW := Lib.hid hbw
    clear hg hbk hS hF hbw
    by_cases hlt : k < len ∧ k < 60
    · obtain ⟨hlt1, hlt2⟩ := hlt
      have hi1 : (k : Int) < len := by omega
      have hi2 : (k : Int) < 60 := by omega
      obtain ⟨b, o, rfl, hbl, hc⟩ := HR.out.at hlt1
      obtain ⟨c0, c1, c2, c3⟩ := hc k hlt1
      obtain ⟨ky, hky⟩ : ∃ z : LruK.Ky, ((f k).a, (f k).b) = z := ⟨_, rfl⟩
      have e1 : (f k).a = ky.1 := by rw [← hky]
      have e2 : (f k).b = ky.2 := by rw [← hky]
      rw [e1] at c1
      rw [e2] at c2
      generalize (f k).v = v at c3
      have HSS := Lib.hid (fun (w' : World) (h : Below wr.heap.size wr w') => (⟨(h.cell (p := ⟨b, o + k * 4 + 1, none⟩) hbl).trans c1, (h.cell (p := ⟨b, o + k * 4 + 2, none⟩) hbl).trans c2, (h.cell (p := ⟨b, o + k * 4 + 3, none⟩) hbl).trans c3, Nat.lt_of_lt_of_le hbl h.size⟩ :
        w'.cell? ⟨b, o + k * 4 + 1, none⟩ = some (.int .i64 ky.1) ∧ w'.cell? ⟨b, o + k * 4 + 2, none⟩ = some (.int .i64 ky.2) ∧ w'.cell? ⟨b, o + k * 4 + 3, none⟩ = some (.int .i64 v) ∧ b < w'.heap.size))
      clear hc c0 c1 c2 c3 hbl hky e1 e2
      go_wp2_with fail
      refine Rgu.RGO_begin (fun w' => Below wr.heap.size wr w') 11 12 [(0, 28), (1, 29), (2, 30), (3, 31), (4, 32), (5, 33), (6, 34), (7, 35), (8, 36), (9, 37), (10, 38)] rfl (by decide +kernel) (by kernel_rfl) (Below.refl _ _).drew (fun R hR => ?_)
      repeat ((first | refine Rgu.RGO_take (by exact rfl) (by exact rfl) (by decide +kernel) (by exact rfl) (by intro w' hw'; obtain ⟨q0, q1, q2, q3⟩ := HSS.out _ hw'; go_simp; try with_reducible rfl) ?_ | refine Rgu.RGO_skip (by exact rfl) (by exact rfl) (by decide +kernel) (by exact rfl) ?_); try simp only [Act.put, List.setIfInBounds_toArray, List.set_cons_zero, List.set_cons_succ])
      have hbd : Below wr.heap.size wr wr.drew := (Below.refl _ _).drew
      obtain ⟨V, hV⟩ : ∃ z, wr.drew = z := ⟨_, rfl⟩
      rw [hV] at hbd ⊢
      have HK := Lib.hid (HK.out.below hbd)
      have HS := Lib.hid (HS.out.below hbd)
      clear HR
      have HBW := Lib.hid (chain HBW.out hbd)
      have hbz := Nat.le_trans hbz hbd.size
      clear hbd hV HSS
      refine Rgu.RGO_last 11 (by exact rfl) (by decide +kernel) (by exact rfl) (fun K hK => ?_)
      go_wp2_with fail
      refine (LruAcc.put HS.out ky v).mono ?_
      rintro e V2 ⟨rfl, F', hS2, hu2, hF2⟩
      have hwz : w.heap.size ≤ V.heap.size := HBW.out.size
      have HBW := Lib.hid (HBW.out.trans (hu2.below hwz (fun b hb h => by have := HFO.out b h; omega)))
      have HK := Lib.hid (HK.out.upd hu2 (fun b cs ty hb hc => other HS.out.1 hb hc))
      have HFO := Lib.hid (show ∀ i, F' i → w.heap.size ≤ i from fun i hi => by
        by_cases hlt : i < V.heap.size
        · exact HFO.out i (hF2 i hlt hi)
        · omega)
      have HS := Lib.hid hS2
      have hbz := Nat.le_trans hbz hu2.size
      clear hS2 hu2 hF2 hwz
      refine hK _ _ ?_
      clear hK K
      try simp only [Act.put, List.setIfInBounds_toArray, List.set_cons_zero, List.set_cons_succ]
      refine Rgu.RGH_done (by decide +kernel) (hR _ _ ?_)
      clear hR R
      generalize LruAcc.acc 5 kv ky (.int .i64 v) = kv2 at HS
      go_wp2_with fail
      refine (keys HS.out.1 (by have := HS.out.2; omega)).mono ?_
      rintro e V3 ⟨vV3, xsV3, rfl, hv, hs, hb⟩
      have HFR := Lib.hid (fresh HK.out hv)
      have HV := Lib.hid hv
      have HK := Lib.hid (HK.out.below hb)
      have HS := Lib.hid (HS.out.below hb)
      have HBW := Lib.hid (chain HBW.out hb)
      have HSH := Lib.hid hs
      have hbzV3 := Nat.le_trans hbz hb.size
      clear hv hs hb
      go_wp2_with fail
      refine (Keep_calls bb base _ _ _ _ vV3 _ _ V3 HK.out (HV.out.rebase (fun b hb => Nat.le_trans hbz (HV.out.lt b hb).1)) HSH.out (by have := HS.out.2; omega) HFR.out (by omega) hbzV3).mono ?_
      rintro e V4 ⟨⟨zV4, rfl⟩, LV4, lvV4, wvV4, heldV4, hk, _, hlV4, hu⟩
      have HS := Lib.hid (HS.out.upd hu (mine_no HS.out HK.out))
      have HK := Lib.hid hk
      have HBW := Lib.hid (HBW.out.trans (hu.below (Nat.le_trans hwb hbzV3) (fun b hb h => by have := h.1; omega)))
      have hbz := Nat.le_trans hbzV3 hu.size
      clear hk hu HFR HV HSH
      go_wp2_with fail
      refine (keys HS.out.1 (by have := HS.out.2; omega)).mono ?_
      rintro e V5 ⟨vV5, xsV5, rfl, hv, hs, hb⟩
      have HFR := Lib.hid (fresh HK.out hv)
      have HV := Lib.hid hv
      have HK := Lib.hid (HK.out.below hb)
      have HS := Lib.hid (HS.out.below hb)
      have HBW := Lib.hid (chain HBW.out hb)
      have HSH := Lib.hid hs
      have hbzV5 := Nat.le_trans hbz hb.size
      clear hv hs hb
      go_wp2_with fail
      refine (Keep_calls bb base _ _ _ _ vV5 _ _ V5 HK.out (HV.out.rebase (fun b hb => Nat.le_trans hbz (HV.out.lt b hb).1)) HSH.out (by have := HS.out.2; omega) HFR.out (by omega) hbzV5).mono ?_
      rintro e V6 ⟨⟨zV6, rfl⟩, LV6, lvV6, wvV6, heldV6, hk, _, hlV6, hu⟩
      have HS := Lib.hid (HS.out.upd hu (mine_no HS.out HK.out))
      have HK := Lib.hid hk
      have HBW := Lib.hid (HBW.out.trans (hu.below (Nat.le_trans hwb hbzV5) (fun b hb h => by have := h.1; omega)))
      have hbz := Nat.le_trans hbzV5 hu.size
      clear hk hu HFR HV HSH
      go_wp2_with fail
      go_roundg (60 - (k + 1))
      case measure => have := HG.out; omega
      case rel => exact ⟨k + 1, _, _, _, _, kv2, F', by omega, by omega, rfl, by go_num, HK.out, by omega, HS.out, HFO.out, HBW.out, hbz⟩
    · have hlt2 : ¬ (k < len) ∨ (k < len ∧ k = 60) := by omega
      rcases hlt2 with h1 | ⟨h1, rfl⟩
      · have hi1 : ¬ ((k : Int) < len) := by omega
        clear hlt
        go_wp2_with fail
        refine (LruabsK.keys HS.out.1 (by have := HS.out.2; omega)).mono ?_
        rintro e V3 ⟨ra, rc, rfl, _, _, hrow, hown, _, hb⟩
        have hlz := lt_of_heap HK.out.bk
        have HOWN := Lib.hid (show ∀ x, ra = some x → x.block < V3.heap.size → ¬ (x.block = bb ∨ ∃ r, r ∈ L ∧ r.v.ownBlock = some x.block) from fun x hx _ hS => by
          have h1 := (hown x hx).1
          rcases hS with h2 | ⟨r, hr, h2⟩
          · omega
          · have := ((HK.out.vs r hr).1.lt _ h2).2
            omega)
        have HROW := Lib.hid hrow
        have HK := Lib.hid (HK.out.below hb)
        have HS := Lib.hid (HS.out.below hb)
        have HBW := Lib.hid (chain HBW.out hb)
        have hbz := Nat.le_trans hbz hb.size
        clear hrow hown hb hlz
        go_wp2_with fail
        refine (Apart_full 50 (fun i _ => -100 - (i : Int)) (fun _ j => -(j : Int)) mark_calls (Go.Proofs.enters_of Try.func50 (by kernel_rfl) rfl) bb base _ _ _ _ V3 HK.out (by omega) hbz).mono ?_
        rintro e V4 ⟨rfl, hbb, hu⟩
        have HS := Lib.hid (HS.out.upd hu (apart_no HS.out HK.out))
        have HROW := Lib.hid (HROW.out.upd hu HOWN.out)
        have HBW := Lib.hid (HBW.out.trans (hbb.mono hwb))
        clear hbb hu HK HOWN
        go_wp2_with fail
        refine (LruabsK.keys HS.out.1 (by have := HS.out.2; omega)).mono ?_
        rintro e V5 ⟨qa, qc, rfl, _, _, hrow, _, _, hb⟩
        have HROW := Lib.hid (HROW.out.below hb)
        have HQ := Lib.hid hrow
        have HBW := Lib.hid (chain HBW.out hb)
        have hkl : kv.length ≤ 5 := HS.out.2
        clear hrow hb
        go_wp2_with fail
        refine (SameKey.Same_calls qa ra kv.length qc rc _ _ V5 HQ.out HROW.out (by omega)).mono ?_
        rintro e V6 ⟨rfl, hb⟩
        have HBW := Lib.hid (chain HBW.out hb)
        clear hb
        go_wp2_with fail
        refine (LruKnown.known_calls V6).mono ?_
        rintro e V7 ⟨rfl, hb⟩
        have HBW := Lib.hid (chain HBW.out hb)
        clear hb
        go_wp2_with fail
        go_ret
        exact ⟨rfl, HBW.out⟩
      · have hi1 : ((60 : Nat) : Int) < len := by omega
        clear hlt
        go_wp2_with fail
        refine (LruabsK.keys HS.out.1 (by have := HS.out.2; omega)).mono ?_
        rintro e V3 ⟨ra, rc, rfl, _, _, hrow, hown, _, hb⟩
        have hlz := lt_of_heap HK.out.bk
        have HOWN := Lib.hid (show ∀ x, ra = some x → x.block < V3.heap.size → ¬ (x.block = bb ∨ ∃ r, r ∈ L ∧ r.v.ownBlock = some x.block) from fun x hx _ hS => by
          have h1 := (hown x hx).1
          rcases hS with h2 | ⟨r, hr, h2⟩
          · omega
          · have := ((HK.out.vs r hr).1.lt _ h2).2
            omega)
        have HROW := Lib.hid hrow
        have HK := Lib.hid (HK.out.below hb)
        have HS := Lib.hid (HS.out.below hb)
        have HBW := Lib.hid (chain HBW.out hb)
        have hbz := Nat.le_trans hbz hb.size
        clear hrow hown hb hlz
        go_wp2_with fail
        refine (Apart_full 50 (fun i _ => -100 - (i : Int)) (fun _ j => -(j : Int)) mark_calls (Go.Proofs.enters_of Try.func50 (by kernel_rfl) rfl) bb base _ _ _ _ V3 HK.out (by omega) hbz).mono ?_
        rintro e V4 ⟨rfl, hbb, hu⟩
        have HS := Lib.hid (HS.out.upd hu (apart_no HS.out HK.out))
        have HROW := Lib.hid (HROW.out.upd hu HOWN.out)
        have HBW := Lib.hid (HBW.out.trans (hbb.mono hwb))
        clear hbb hu HK HOWN
        go_wp2_with fail
        refine (LruabsK.keys HS.out.1 (by have := HS.out.2; omega)).mono ?_
        rintro e V5 ⟨qa, qc, rfl, _, _, hrow, _, _, hb⟩
        have HROW := Lib.hid (HROW.out.below hb)
        have HQ := Lib.hid hrow
        have HBW := Lib.hid (chain HBW.out hb)
        have hkl : kv.length ≤ 5 := HS.out.2
        clear hrow hb
        go_wp2_with fail
        refine (SameKey.Same_calls qa ra kv.length qc rc _ _ V5 HQ.out HROW.out (by omega)).mono ?_
        rintro e V6 ⟨rfl, hb⟩
        have HBW := Lib.hid (chain HBW.out hb)
        clear hb
        go_wp2_with fail
        refine (LruKnown.known_calls V6).mono ?_
        rintro e V7 ⟨rfl, hb⟩
        have HBW := Lib.hid (chain HBW.out hb)
        clear hb
        go_wp2_with fail
        go_ret
        exact ⟨rfl, HBW.out⟩
end Go.Proofs.Ytgddlcbaieclcaa.lruKept
