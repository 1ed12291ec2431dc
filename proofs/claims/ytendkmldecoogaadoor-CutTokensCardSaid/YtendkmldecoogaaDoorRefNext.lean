/-
  The reference's Next.
-/
import Derived.Test.YtendkmldecoogaaDoorRefShort
namespace Go.Proofs.YtendkmldecoogaaDoor.RefNext
open Go Go.RowKit Go.Proofs.YtendkmldecoogaaDoor.Kit Go.Proofs.YtendkmldecoogaaDoor.Utf Go.Proofs.YtendkmldecoogaaDoor.It Go.Proofs.YtendkmldecoogaaDoor.ItGo Go.Proofs.YtendkmldecoogaaDoor.Dt Go.Proofs.YtendkmldecoogaaDoor.Cu Go.Proofs.YtendkmldecoogaaDoor.Ref2c Go.Proofs.YtendkmldecoogaaDoor.Ref12 Go.Proofs.YtendkmldecoogaaDoor.RefShort
attribute [local irreducible] wpQuiet

theorem next_tail {D : Dt} {L : List It} {i j n : Nat} {fin : Bool} (h0 : shortI (L.drop i) fin = some 0) (hnone : ¬ (is ((L.drop i).getD 0 default) 32 = true ∧ (L.drop i).length ≤ 1 ∧ fin = false)) (hj : j = i + skip D (L.drop i)) (hi : i < L.length) (hjn : j ≤ n) (hn : n ≤ L.length)
    (hk : ∀ t, j ≤ t → t < n → kind D (L.getD t default) = kind D (L.getD j default)) (hs : n < L.length → kind D (L.getD n default) ≠ kind D (L.getD j default)) :
    nextI D (L.drop i) fin = if n = L.length ∧ fin = false then none else if kind D (L.getD j default) = 3 then (if n < L.length ∧ 2 ≤ n - i then some (n - i - 1, 5) else some (n - i, 5)) else some (n - i, sortOf (kind D (L.getD j default))) := by
  have hM : (L.drop i).length = L.length - i := List.length_drop
  have hk1 : kind D ((L.drop i).getD (skip D (L.drop i)) default) = kind D (L.getD j default) := by rw [getD_drop, ← hj]
  have hr : runI D (kind D (L.getD j default)) ((L.drop i).drop (skip D (L.drop i))) = n - j := by
    rw [List.drop_drop, ← hj]
    refine runI_eq (by rw [List.length_drop]; omega) (fun t ht => ?_) (fun ht => ?_)
    · rw [getD_drop]
      exact hk _ (by omega) (by omega)
    · rw [getD_drop, show j + (n - j) = n by omega]
      exact hs (by rw [List.length_drop] at ht; omega)
  unfold nextI
  rw [h0]
  simp only
  rw [if_neg hnone, hk1, hr, hM]
  have e : skip D (L.drop i) + (n - j) = n - i := by omega
  rw [e]
  have c1 : (n - i = L.length - i ∧ fin = false) ↔ (n = L.length ∧ fin = false) := by constructor <;> rintro ⟨h, h2⟩ <;> exact ⟨by omega, h2⟩
  have c2 : (n - i < L.length - i ∧ 2 ≤ n - i) ↔ (n < L.length ∧ 2 ≤ n - i) := by constructor <;> rintro ⟨h, h2⟩ <;> exact ⟨by omega, h2⟩
  simp only [c1, c2]

/-- What Next answers. -/
def nxV : Option (Nat × Nat) → Value
  | some (n, s) => .tuple #[.int .i64 n, .int .i64 s, .bool true]
  | none => .tuple #[.int .i64 0, .int .i64 0, .bool false]

set_option maxHeartbeats 4000000 in
set_option maxRecDepth 100000 in
theorem Next_calls (D : Dt) (p : Pl) (w : World) (g o c : Nat) (L : List It) (i : Nat) (fin : Bool) (hd : At w D p) (hc : ICells w g o L) (hi : i < L.length) (hL : L.length ≤ 1000000000000) :
    Calls Tryd.prog 102 #[.agg #[.slice p.a0 D.nw p.c0, .slice p.a1 D.nm p.c1, .slice p.a2 D.n0 p.c2, .slice p.a3 D.n1 p.c3, .slice p.a4 D.n2 p.c4], .slice (some ⟨g, o, none⟩) L.length c, .int .i64 i, .bool fin] w fun e w' => e = .returned (nxV (nextI D (L.drop i) fin)) ∧ Below w.heap.size w w' := by
  have HA := Lib.hid hd
  have HC := Lib.hid hc
  obtain ⟨W1, hW1⟩ : ∃ Xz, w.alloc (.cells #[.slice p.a0 D.nw p.c0, .slice p.a1 D.nm p.c1, .slice p.a2 D.n0 p.c2, .slice p.a3 D.n1 p.c3, .slice p.a4 D.n2 p.c4] 33) = Xz := ⟨_, rfl⟩
  obtain ⟨rd, hrd⟩ : ∃ xz, w.heap.size = xz := ⟨_, rfl⟩
  have hw1 : Below w.heap.size w W1 := by rw [← hW1]; exact (Below.refl _ _).alloc (Nat.le_refl _) _
  have HD := Lib.hid (by rw [← hW1, ← hrd]; exact alloc_new rfl : W1.heap[rd]? = some (.cells #[.slice p.a0 D.nw p.c0, .slice p.a1 D.nm p.c1, .slice p.a2 D.n0 p.c2, .slice p.a3 D.n1 p.c3, .slice p.a4 D.n2 p.c4] 33 (0, 0)))
  have EW1 := Lib.hid hW1
  have Erd := Lib.hid hrd
  clear hW1 hrd
  have HB := Lib.hid hw1
  have HSH := Lib.hid (short_calls W1 g o c L i fin (hc.below hw1) hi hL)
  have hii : (i : Int) < L.length := by omega
  have hMl : (L.drop i).length = L.length - i := List.length_drop
  obtain ⟨sh, hsh⟩ : ∃ z, shortI (L.drop i) fin = z := ⟨_, rfl⟩
  rw [hsh] at HSH
  have HS0 := Lib.hid hsh
  have HML := Lib.hid hMl
  have w1 : IntKind.i64.wrap ((i : Int) + 1) = (i : Int) + 1 := i64w _ (by omega) (by omega)
  have n1 : ((i : Int) + 1).toNat = i + 1 := by omega
  have hne : L.drop i ≠ [] := by
    intro h
    rw [List.drop_eq_nil_iff] at h
    omega
  have HNE := Lib.hid hne
  clear hd hc hw1 hsh hMl hne
  go_enter Tryd.func102, Tryd.ntmps102
  go_upto_region 1 with fail
  rw [EW1.out, Erd.out]
  go_wp2_with fail
  refine HSH.out.mono ?_
  rintro e W2 ⟨rfl, hb⟩
  have HD := Lib.hid ((hb.block _ (lt_of_heap HD.out)).trans HD.out)
  have HB := Lib.hid (chain HB.out hb)
  clear hb HSH
  match sh, HS0 with
  | none, HS0 =>
    simp only [shV]
    go_wp2_with fail
    refine bodyPost_ret (v := .tuple #[.int .i64 0, .int .i64 0, .bool false]) (by simp [results, Tryd.results102, go_sem, *]) rfl (⟨?_, HB.out⟩)
    unfold nextI
    rw [HS0.out]
    rfl
  | some (m + 1), HS0 =>
    have hm : (0 : Int) < ((m + 1 : Nat) : Int) := by omega
    simp only [shV]
    go_wp2_with fail
    refine bodyPost_ret (v := .tuple #[.int .i64 ((m + 1 : Nat) : Int), .int .i64 1, .bool true]) (by simp [results, Tryd.results102, go_sem, *]) rfl (⟨?_, HB.out⟩)
    unfold nextI
    rw [HS0.out]
    rfl
  | some 0, HS0 =>
    simp only [shV]
    obtain ⟨x, hx⟩ : ∃ x, L.getD i default = x := ⟨_, rfl⟩
    have hx0 : (L.drop i).getD 0 default = x := by rw [getD_drop, Nat.add_zero]; exact hx
    have hi32 := is_calls x 32
    unfold encI at hi32
    have H32 := Lib.hid hi32
    obtain ⟨b, hb⟩ : ∃ b, is x 32 = b := ⟨_, rfl⟩
    rw [hb] at H32
    have HX := Lib.hid hx
    have HX0 := Lib.hid hx0
    have HBB := Lib.hid hb
    clear hx hx0 hi32 hb
    have hcc := HC.out.below HB.out
    have cz := hcc.1
    obtain ⟨c0, c1, c2, c3⟩ := hcc.2 i hi
    rw [HX.out] at c0 c1 c2 c3
    clear hcc
    go_wp2_with fail
    refine (H32.out W2).mono ?_
    rintro e W3 ⟨rfl, hb⟩
    have HD := Lib.hid ((hb.block _ (lt_of_heap HD.out)).trans HD.out)
    have HB := Lib.hid (chain HB.out hb)
    clear hb H32 c0 c1 c2 c3 cz
    cases b with
    | false =>
      have hnn : ¬ (is ((L.drop i).getD 0 default) 32 = true ∧ (L.drop i).length ≤ 1 ∧ fin = false) := by rw [HX0.out, HBB.out]; simp
      have hsk : skip D (L.drop i) = 0 := by unfold skip; rw [if_neg]; rw [HX0.out, HBB.out]; simp
      have HNN := Lib.hid hnn
      have HSK := Lib.hid hsk
      clear hnn hsk
      have hjl : i < L.length := by omega
      have hjz : ((i : Nat) : Int) < L.length := by omega
      obtain ⟨kx, hkx⟩ : ∃ z, L.getD (i) default = z := ⟨_, rfl⟩
      obtain ⟨kv, hkv⟩ : ∃ z, kind D kx = z := ⟨_, rfl⟩
      have HKX := Lib.hid hkx
      have HKV := Lib.hid hkv
      have HK1 := Lib.hid (fun (y : Later W3) => Kind_calls D p kx y.w (HA.out.below (Later.chain HB.out y)))
      unfold encI at HK1
      rw [hkv] at HK1
      have hcc := HC.out.below HB.out
      have cz := hcc.1
      obtain ⟨c0, c1, c2, c3⟩ := hcc.2 (i) hjl
      rw [hkx] at c0 c1 c2 c3
      clear hcc hkx hkv
      have d0 := cell_at HD.out 0
      have d1 := cell_at HD.out 1
      have d2 := cell_at HD.out 2
      have d3 := cell_at HD.out 3
      have d4 := cell_at HD.out 4
      have dz := lt_of_heap HD.out
      simp only [List.getElem?_toArray, List.getElem?_cons_zero, List.getElem?_cons_succ] at d0 d1 d2 d3 d4
      go_upto_region 12 with fail
      refine region_calm (by kernel_rfl) (by kernel_rfl) ?_
      repeat (quiet_step ((exact later_call (HK1.out _))))
      refine wpQuiet_nil ?_
      rintro _ ⟨y, rfl⟩
      have HB := Lib.hid (Later.chain HB.out y)
      have HD := Lib.hid ((y.h.block _ dz).trans HD.out)
      generalize y.w = W5 at HB HD ⊢
      clear y c0 c1 c2 c3 cz d0 d1 d2 d3 d4 dz
      go_wp2_with fail
      go_loopg [11] (L.length - (i)) (fun g' s11 wr => ∃ n : Nat, i ≤ n ∧ n ≤ L.length ∧ g' = L.length - n ∧ s11 = .int .i64 n ∧ (∀ t, i ≤ t → t < n → kind D (L.getD t default) = kv) ∧ wr.heap[rd]? = some (.cells #[.slice p.a0 D.nw p.c0, .slice p.a1 D.nm p.c1, .slice p.a2 D.n0 p.c2, .slice p.a3 D.n1 p.c3, .slice p.a4 D.n2 p.c4] 33 (0, 0)) ∧ Below w.heap.size w wr)
      case atStart => exact ⟨i, Nat.le_refl _, by omega, by omega, by go_num, fun t h1 h2 => by omega, HD.out, HB.out⟩
      case round =>
        obtain ⟨n, hn1, hn2, hg, rfl, hall, hdd, hbb⟩ := hrel
        have HG := Lib.hid hg
        have HALL := Lib.hid hall
        have HD := Lib.hid hdd
        have HB := Lib.hid hbb
        have hwn : IntKind.i64.wrap ((n : Int) - i) = (n : Int) - i := i64w _ (by omega) (by omega)
        have hsub : ((n - i : Nat) : Int) = (n : Int) - i := by omega
        have HSUB := Lib.hid hsub
        clear hg hall hdd hbb hsub
        by_cases hlt : n < L.length
        · have hltz : (n : Int) < L.length := by omega
          have hnez : ((n : Int) == L.length) = false := by rw [beq_eq_false_iff_ne]; omega
          obtain ⟨kq, hkq⟩ : ∃ z, L.getD n default = z := ⟨_, rfl⟩
          obtain ⟨kn, hkn⟩ : ∃ z, kind D kq = z := ⟨_, rfl⟩
          have HKQ := Lib.hid hkq
          have HKN := Lib.hid hkn
          have HK2 := Lib.hid (fun (y : Later wr) => Kind_calls D p kq y.w (HA.out.below (Later.chain HB.out y)))
          unfold encI at HK2
          rw [hkn] at HK2
          have hcc := HC.out.below HB.out
          have cz := hcc.1
          obtain ⟨c0, c1, c2, c3⟩ := hcc.2 n hlt
          rw [hkq] at c0 c1 c2 c3
          clear hcc hkq hkn
          have d0 := cell_at HD.out 0
          have d1 := cell_at HD.out 1
          have d2 := cell_at HD.out 2
          have d3 := cell_at HD.out 3
          have d4 := cell_at HD.out 4
          have dz := lt_of_heap HD.out
          simp only [List.getElem?_toArray, List.getElem?_cons_zero, List.getElem?_cons_succ] at d0 d1 d2 d3 d4
          go_upto_region 14 with fail
          by_cases hkk : kn = kv
          · have e1 : (kn == kv) = true := by rw [hkk]; simp
            have HKK := Lib.hid hkk
            clear hkk
            refine region_calm (by kernel_rfl) (by kernel_rfl) ?_
            repeat (quiet_step ((exact later_call (HK2.out _))))
            refine wpQuiet_nil ?_
            rintro _ ⟨y, rfl⟩
            have HB := Lib.hid (Later.chain HB.out y)
            have HD := Lib.hid ((y.h.block _ dz).trans HD.out)
            generalize y.w = W6 at HB HD ⊢
            clear y c0 c1 c2 c3 cz d0 d1 d2 d3 d4 dz hwn
            go_wp2_with fail
            go_roundg (L.length - (n + 1))
            case measure => have := HG.out; omega
            case rel => exact ⟨n + 1, by omega, by omega, rfl, by go_num, fun t h1 h2 => (Nat.lt_or_ge t n).elim (HALL.out t h1) (fun h => by rw [show t = n by omega, HKQ.out, HKN.out]; exact HKK.out), HD.out, HB.out⟩
          · have e1 : (kn == kv) = false := by rw [beq_eq_false_iff_ne]; exact hkk
            have HT := Lib.hid (next_tail HS0.out HNN.out (show i = i + skip D (L.drop i) by have := HSK.out; omega) hi hn1 hn2 (fun t h1 h2 => by rw [HKX.out, HKV.out]; exact HALL.out t h1 h2) (fun _ => by rw [HKX.out, HKV.out, HKQ.out, HKN.out]; exact hkk))
            rw [HKX.out, HKV.out] at HT
            have hnl : n ≠ L.length := by omega
            clear hkk
            refine region_calm (by kernel_rfl) (by kernel_rfl) ?_
            repeat (quiet_step ((exact later_call (HK2.out _))))
            refine wpQuiet_nil ?_
            rintro _ ⟨y, rfl⟩
            have HB := Lib.hid (Later.chain HB.out y)
            generalize y.w = W6 at HB ⊢
            clear y c0 c1 c2 c3 cz d0 d1 d2 d3 d4 dz
            have hkr := kind_range D kx
            rw [HKV.out] at hkr
            rcases hkr with hk3 | hk3 | hk3 | hk3
            · subst hk3
              have HT2 := Lib.hid (show nextI D (L.drop i) fin = some (n - i, 2) by rw [HT.out, if_neg (fun h => hnl h.1), if_neg (by decide)]; rfl)
              clear hnl
              go_wp2_with fail
              refine bodyPost_ret (v := .tuple #[.int .i64 ((n : Int) - i), .int .i64 2, .bool true]) (by simp [results, Tryd.results102, go_sem, *]) rfl (⟨by rw [HT2.out]; simp only [nxV]; rw [HSUB.out]; rfl, HB.out⟩)
            · subst hk3
              have HT2 := Lib.hid (show nextI D (L.drop i) fin = some (n - i, 3) by rw [HT.out, if_neg (fun h => hnl h.1), if_neg (by decide)]; rfl)
              clear hnl
              go_wp2_with fail
              refine bodyPost_ret (v := .tuple #[.int .i64 ((n : Int) - i), .int .i64 3, .bool true]) (by simp [results, Tryd.results102, go_sem, *]) rfl (⟨by rw [HT2.out]; simp only [nxV]; rw [HSUB.out]; rfl, HB.out⟩)
            · subst hk3
              by_cases h2 : 2 ≤ n - i
              · have h2z : (2 : Int) ≤ (n : Int) - i := by omega
                have hwm : IntKind.i64.wrap ((n : Int) - i - 1) = (n : Int) - i - 1 := i64w _ (by omega) (by omega)
                have HM := Lib.hid (show ((n - i - 1 : Nat) : Int) = (n : Int) - i - 1 by omega)
                have HT2 := Lib.hid (show nextI D (L.drop i) fin = some (n - i - 1, 5) by rw [HT.out, if_neg (fun h => hnl h.1), if_pos rfl, if_pos ⟨hlt, h2⟩])
                clear h2 hnl
                go_wp2_with fail
                refine bodyPost_ret (v := .tuple #[.int .i64 ((n : Int) - i - 1), .int .i64 5, .bool true]) (by simp [results, Tryd.results102, go_sem, *]) rfl (⟨by rw [HT2.out]; simp only [nxV]; rw [HM.out]; rfl, HB.out⟩)
              · have h2z : ¬ ((2 : Int) ≤ (n : Int) - i) := by omega
                have HT2 := Lib.hid (show nextI D (L.drop i) fin = some (n - i, 5) by rw [HT.out, if_neg (fun h => hnl h.1), if_pos rfl, if_neg (fun h => h2 h.2)])
                clear h2 hnl
                go_wp2_with fail
                refine bodyPost_ret (v := .tuple #[.int .i64 ((n : Int) - i), .int .i64 5, .bool true]) (by simp [results, Tryd.results102, go_sem, *]) rfl (⟨by rw [HT2.out]; simp only [nxV]; rw [HSUB.out]; rfl, HB.out⟩)
            · subst hk3
              have HT2 := Lib.hid (show nextI D (L.drop i) fin = some (n - i, 4) by rw [HT.out, if_neg (fun h => hnl h.1), if_neg (by decide)]; rfl)
              clear hnl
              go_wp2_with fail
              refine bodyPost_ret (v := .tuple #[.int .i64 ((n : Int) - i), .int .i64 4, .bool true]) (by simp [results, Tryd.results102, go_sem, *]) rfl (⟨by rw [HT2.out]; simp only [nxV]; rw [HSUB.out]; rfl, HB.out⟩)
        · have hnl : n = L.length := by omega
          have hltz : ¬ ((n : Int) < L.length) := by omega
          have heqz : ((n : Int) == L.length) = true := by rw [beq_iff_eq]; omega
          have HT := Lib.hid (next_tail HS0.out HNN.out (show i = i + skip D (L.drop i) by have := HSK.out; omega) hi hn1 hn2 (fun t h1 h2 => by rw [HKX.out, HKV.out]; exact HALL.out t h1 h2) (fun h => absurd h hlt))
          rw [HKX.out, HKV.out] at HT
          have HNL := Lib.hid hnl
          clear hnl
          have d0 := cell_at HD.out 0
          have d1 := cell_at HD.out 1
          have d2 := cell_at HD.out 2
          have d3 := cell_at HD.out 3
          have d4 := cell_at HD.out 4
          have dz := lt_of_heap HD.out
          simp only [List.getElem?_toArray, List.getElem?_cons_zero, List.getElem?_cons_succ] at d0 d1 d2 d3 d4
          go_upto_region 14 with fail
          refine region_calm (by kernel_rfl) (by kernel_rfl) ?_
          repeat (quiet_step ((fail)))
          refine wpQuiet_nil ?_
          rintro _ ⟨y, rfl⟩
          have HB := Lib.hid (Later.chain HB.out y)
          generalize y.w = W6 at HB ⊢
          clear y d0 d1 d2 d3 d4 dz
          cases fin with
          | false =>
            have HT2 := Lib.hid (show nextI D (L.drop i) false = none by rw [HT.out, if_pos ⟨HNL.out, rfl⟩])
            go_wp2_with fail
            refine bodyPost_ret (v := .tuple #[.int .i64 0, .int .i64 0, .bool false]) (by simp [results, Tryd.results102, go_sem, *]) rfl (⟨by rw [HT2.out]; rfl, HB.out⟩)
          | true =>
            have hkr := kind_range D kx
            rw [HKV.out] at hkr
            rcases hkr with hk3 | hk3 | hk3 | hk3
            · subst hk3
              have HT2 := Lib.hid (show nextI D (L.drop i) true = some (n - i, 2) by rw [HT.out, if_neg (by simp), if_neg (by decide)]; rfl)
              go_wp2_with fail
              refine bodyPost_ret (v := .tuple #[.int .i64 ((n : Int) - i), .int .i64 2, .bool true]) (by simp [results, Tryd.results102, go_sem, *]) rfl (⟨by rw [HT2.out]; simp only [nxV]; rw [HSUB.out]; rfl, HB.out⟩)
            · subst hk3
              have HT2 := Lib.hid (show nextI D (L.drop i) true = some (n - i, 3) by rw [HT.out, if_neg (by simp), if_neg (by decide)]; rfl)
              go_wp2_with fail
              refine bodyPost_ret (v := .tuple #[.int .i64 ((n : Int) - i), .int .i64 3, .bool true]) (by simp [results, Tryd.results102, go_sem, *]) rfl (⟨by rw [HT2.out]; simp only [nxV]; rw [HSUB.out]; rfl, HB.out⟩)
            · subst hk3
              have HT2 := Lib.hid (show nextI D (L.drop i) true = some (n - i, 5) by rw [HT.out, if_neg (by simp), if_pos rfl, if_neg (fun h => hlt h.1)])
              go_wp2_with fail
              refine bodyPost_ret (v := .tuple #[.int .i64 ((n : Int) - i), .int .i64 5, .bool true]) (by simp [results, Tryd.results102, go_sem, *]) rfl (⟨by rw [HT2.out]; simp only [nxV]; rw [HSUB.out]; rfl, HB.out⟩)
            · subst hk3
              have HT2 := Lib.hid (show nextI D (L.drop i) true = some (n - i, 4) by rw [HT.out, if_neg (by simp), if_neg (by decide)]; rfl)
              go_wp2_with fail
              refine bodyPost_ret (v := .tuple #[.int .i64 ((n : Int) - i), .int .i64 4, .bool true]) (by simp [results, Tryd.results102, go_sem, *]) rfl (⟨by rw [HT2.out]; simp only [nxV]; rw [HSUB.out]; rfl, HB.out⟩)
    | true =>
      by_cases hlast : i + 1 < L.length
      · have hl1 : ¬ ((L.length : Int) ≤ (i : Int) + 1) := by omega
        have hl2 : (i : Int) + 1 < L.length := by omega
        have cb1 : decide ((i : Int) + 1 < L.length) = true := decide_eq_true hl2
        have hl3 : (0 : Int) ≤ (i : Int) + 1 := by omega
        have hl4 : ¬ ((i : Int) + 1 < 0) := by omega
        obtain ⟨q, hq⟩ : ∃ q, L.getD (i + 1) default = q := ⟨_, rfl⟩
        have hq1 : (L.drop i).getD 1 default = q := by rw [getD_drop]; exact hq
        obtain ⟨kq, hkq⟩ : ∃ z, kind D q = z := ⟨_, rfl⟩
        have HQ := Lib.hid hq
        have HQ1 := Lib.hid hq1
        have HKQ := Lib.hid hkq
        have HK2 := Lib.hid (fun (y : Later W3) => Kind_calls D p q y.w (HA.out.below (Later.chain HB.out y)))
        unfold encI at HK2
        rw [hkq] at HK2
        have hcc := HC.out.below HB.out
        have cz := hcc.1
        obtain ⟨c0, c1, c2, c3⟩ := hcc.2 (i + 1) hlast
        rw [hq] at c0 c1 c2 c3
        have hnn : ¬ (is ((L.drop i).getD 0 default) 32 = true ∧ (L.drop i).length ≤ 1 ∧ fin = false) := by have := HML.out; omega
        have HNN := Lib.hid hnn
        clear hcc hq hq1 hkq hnn
        have d0 := cell_at HD.out 0
        have d1 := cell_at HD.out 1
        have d2 := cell_at HD.out 2
        have d3 := cell_at HD.out 3
        have d4 := cell_at HD.out 4
        have dz := lt_of_heap HD.out
        simp only [List.getElem?_toArray, List.getElem?_cons_zero, List.getElem?_cons_succ] at d0 d1 d2 d3 d4
        go_upto_region 10 with fail
        by_cases hk3 : kq = 3
        · have e1 : (kq != 3) = false := by simp [hk3]
          have HSK := Lib.hid (show skip D (L.drop i) = 0 by unfold skip; rw [if_neg]; rw [HQ1.out, HKQ.out]; simp [hk3])
          clear hk3
          refine region_calm (by kernel_rfl) (by kernel_rfl) ?_
          repeat (quiet_step ((exact later_call (HK2.out _))))
          refine wpQuiet_nil ?_
          rintro _ ⟨y, rfl⟩
          have HB := Lib.hid (Later.chain HB.out y)
          have HD := Lib.hid ((y.h.block _ dz).trans HD.out)
          generalize y.w = W4 at HB HD ⊢
          clear y c0 c1 c2 c3 cz d0 d1 d2 d3 d4 dz
          have hjl : i < L.length := by omega
          have hjz : ((i : Nat) : Int) < L.length := by omega
          obtain ⟨kx, hkx⟩ : ∃ z, L.getD (i) default = z := ⟨_, rfl⟩
          obtain ⟨kv, hkv⟩ : ∃ z, kind D kx = z := ⟨_, rfl⟩
          have HKX := Lib.hid hkx
          have HKV := Lib.hid hkv
          have HK1 := Lib.hid (fun (y : Later W4) => Kind_calls D p kx y.w (HA.out.below (Later.chain HB.out y)))
          unfold encI at HK1
          rw [hkv] at HK1
          have hcc := HC.out.below HB.out
          have cz := hcc.1
          obtain ⟨c0, c1, c2, c3⟩ := hcc.2 (i) hjl
          rw [hkx] at c0 c1 c2 c3
          clear hcc hkx hkv
          have d0 := cell_at HD.out 0
          have d1 := cell_at HD.out 1
          have d2 := cell_at HD.out 2
          have d3 := cell_at HD.out 3
          have d4 := cell_at HD.out 4
          have dz := lt_of_heap HD.out
          simp only [List.getElem?_toArray, List.getElem?_cons_zero, List.getElem?_cons_succ] at d0 d1 d2 d3 d4
          go_upto_region 12 with fail
          refine region_calm (by kernel_rfl) (by kernel_rfl) ?_
          repeat (quiet_step ((exact later_call (HK1.out _))))
          refine wpQuiet_nil ?_
          rintro _ ⟨y, rfl⟩
          have HB := Lib.hid (Later.chain HB.out y)
          have HD := Lib.hid ((y.h.block _ dz).trans HD.out)
          generalize y.w = W5 at HB HD ⊢
          clear y c0 c1 c2 c3 cz d0 d1 d2 d3 d4 dz
          go_wp2_with fail
          go_loopg [11] (L.length - (i)) (fun g' s11 wr => ∃ n : Nat, i ≤ n ∧ n ≤ L.length ∧ g' = L.length - n ∧ s11 = .int .i64 n ∧ (∀ t, i ≤ t → t < n → kind D (L.getD t default) = kv) ∧ wr.heap[rd]? = some (.cells #[.slice p.a0 D.nw p.c0, .slice p.a1 D.nm p.c1, .slice p.a2 D.n0 p.c2, .slice p.a3 D.n1 p.c3, .slice p.a4 D.n2 p.c4] 33 (0, 0)) ∧ Below w.heap.size w wr)
          case atStart => exact ⟨i, Nat.le_refl _, by omega, by omega, by go_num, fun t h1 h2 => by omega, HD.out, HB.out⟩
          case round =>
            obtain ⟨n, hn1, hn2, hg, rfl, hall, hdd, hbb⟩ := hrel
            have HG := Lib.hid hg
            have HALL := Lib.hid hall
            have HD := Lib.hid hdd
            have HB := Lib.hid hbb
            have hwn : IntKind.i64.wrap ((n : Int) - i) = (n : Int) - i := i64w _ (by omega) (by omega)
            have hsub : ((n - i : Nat) : Int) = (n : Int) - i := by omega
            have HSUB := Lib.hid hsub
            clear hg hall hdd hbb hsub
            by_cases hlt : n < L.length
            · have hltz : (n : Int) < L.length := by omega
              have hnez : ((n : Int) == L.length) = false := by rw [beq_eq_false_iff_ne]; omega
              obtain ⟨kq, hkq⟩ : ∃ z, L.getD n default = z := ⟨_, rfl⟩
              obtain ⟨kn, hkn⟩ : ∃ z, kind D kq = z := ⟨_, rfl⟩
              have HKQ := Lib.hid hkq
              have HKN := Lib.hid hkn
              have HK2 := Lib.hid (fun (y : Later wr) => Kind_calls D p kq y.w (HA.out.below (Later.chain HB.out y)))
              unfold encI at HK2
              rw [hkn] at HK2
              have hcc := HC.out.below HB.out
              have cz := hcc.1
              obtain ⟨c0, c1, c2, c3⟩ := hcc.2 n hlt
              rw [hkq] at c0 c1 c2 c3
              clear hcc hkq hkn
              have d0 := cell_at HD.out 0
              have d1 := cell_at HD.out 1
              have d2 := cell_at HD.out 2
              have d3 := cell_at HD.out 3
              have d4 := cell_at HD.out 4
              have dz := lt_of_heap HD.out
              simp only [List.getElem?_toArray, List.getElem?_cons_zero, List.getElem?_cons_succ] at d0 d1 d2 d3 d4
              go_upto_region 14 with fail
              by_cases hkk : kn = kv
              · have e1 : (kn == kv) = true := by rw [hkk]; simp
                have HKK := Lib.hid hkk
                clear hkk
                refine region_calm (by kernel_rfl) (by kernel_rfl) ?_
                repeat (quiet_step ((exact later_call (HK2.out _))))
                refine wpQuiet_nil ?_
                rintro _ ⟨y, rfl⟩
                have HB := Lib.hid (Later.chain HB.out y)
                have HD := Lib.hid ((y.h.block _ dz).trans HD.out)
                generalize y.w = W6 at HB HD ⊢
                clear y c0 c1 c2 c3 cz d0 d1 d2 d3 d4 dz hwn
                go_wp2_with fail
                go_roundg (L.length - (n + 1))
                case measure => have := HG.out; omega
                case rel => exact ⟨n + 1, by omega, by omega, rfl, by go_num, fun t h1 h2 => (Nat.lt_or_ge t n).elim (HALL.out t h1) (fun h => by rw [show t = n by omega, HKQ.out, HKN.out]; exact HKK.out), HD.out, HB.out⟩
              · have e1 : (kn == kv) = false := by rw [beq_eq_false_iff_ne]; exact hkk
                have HT := Lib.hid (next_tail HS0.out HNN.out (show i = i + skip D (L.drop i) by have := HSK.out; omega) hi hn1 hn2 (fun t h1 h2 => by rw [HKX.out, HKV.out]; exact HALL.out t h1 h2) (fun _ => by rw [HKX.out, HKV.out, HKQ.out, HKN.out]; exact hkk))
                rw [HKX.out, HKV.out] at HT
                have hnl : n ≠ L.length := by omega
                clear hkk
                refine region_calm (by kernel_rfl) (by kernel_rfl) ?_
                repeat (quiet_step ((exact later_call (HK2.out _))))
                refine wpQuiet_nil ?_
                rintro _ ⟨y, rfl⟩
                have HB := Lib.hid (Later.chain HB.out y)
                generalize y.w = W6 at HB ⊢
                clear y c0 c1 c2 c3 cz d0 d1 d2 d3 d4 dz
                have hkr := kind_range D kx
                rw [HKV.out] at hkr
                rcases hkr with hk3 | hk3 | hk3 | hk3
                · subst hk3
                  have HT2 := Lib.hid (show nextI D (L.drop i) fin = some (n - i, 2) by rw [HT.out, if_neg (fun h => hnl h.1), if_neg (by decide)]; rfl)
                  clear hnl
                  go_wp2_with fail
                  refine bodyPost_ret (v := .tuple #[.int .i64 ((n : Int) - i), .int .i64 2, .bool true]) (by simp [results, Tryd.results102, go_sem, *]) rfl (⟨by rw [HT2.out]; simp only [nxV]; rw [HSUB.out]; rfl, HB.out⟩)
                · subst hk3
                  have HT2 := Lib.hid (show nextI D (L.drop i) fin = some (n - i, 3) by rw [HT.out, if_neg (fun h => hnl h.1), if_neg (by decide)]; rfl)
                  clear hnl
                  go_wp2_with fail
                  refine bodyPost_ret (v := .tuple #[.int .i64 ((n : Int) - i), .int .i64 3, .bool true]) (by simp [results, Tryd.results102, go_sem, *]) rfl (⟨by rw [HT2.out]; simp only [nxV]; rw [HSUB.out]; rfl, HB.out⟩)
                · subst hk3
                  by_cases h2 : 2 ≤ n - i
                  · have h2z : (2 : Int) ≤ (n : Int) - i := by omega
                    have hwm : IntKind.i64.wrap ((n : Int) - i - 1) = (n : Int) - i - 1 := i64w _ (by omega) (by omega)
                    have HM := Lib.hid (show ((n - i - 1 : Nat) : Int) = (n : Int) - i - 1 by omega)
                    have HT2 := Lib.hid (show nextI D (L.drop i) fin = some (n - i - 1, 5) by rw [HT.out, if_neg (fun h => hnl h.1), if_pos rfl, if_pos ⟨hlt, h2⟩])
                    clear h2 hnl
                    go_wp2_with fail
                    refine bodyPost_ret (v := .tuple #[.int .i64 ((n : Int) - i - 1), .int .i64 5, .bool true]) (by simp [results, Tryd.results102, go_sem, *]) rfl (⟨by rw [HT2.out]; simp only [nxV]; rw [HM.out]; rfl, HB.out⟩)
                  · have h2z : ¬ ((2 : Int) ≤ (n : Int) - i) := by omega
                    have HT2 := Lib.hid (show nextI D (L.drop i) fin = some (n - i, 5) by rw [HT.out, if_neg (fun h => hnl h.1), if_pos rfl, if_neg (fun h => h2 h.2)])
                    clear h2 hnl
                    go_wp2_with fail
                    refine bodyPost_ret (v := .tuple #[.int .i64 ((n : Int) - i), .int .i64 5, .bool true]) (by simp [results, Tryd.results102, go_sem, *]) rfl (⟨by rw [HT2.out]; simp only [nxV]; rw [HSUB.out]; rfl, HB.out⟩)
                · subst hk3
                  have HT2 := Lib.hid (show nextI D (L.drop i) fin = some (n - i, 4) by rw [HT.out, if_neg (fun h => hnl h.1), if_neg (by decide)]; rfl)
                  clear hnl
                  go_wp2_with fail
                  refine bodyPost_ret (v := .tuple #[.int .i64 ((n : Int) - i), .int .i64 4, .bool true]) (by simp [results, Tryd.results102, go_sem, *]) rfl (⟨by rw [HT2.out]; simp only [nxV]; rw [HSUB.out]; rfl, HB.out⟩)
            · have hnl : n = L.length := by omega
              have hltz : ¬ ((n : Int) < L.length) := by omega
              have heqz : ((n : Int) == L.length) = true := by rw [beq_iff_eq]; omega
              have HT := Lib.hid (next_tail HS0.out HNN.out (show i = i + skip D (L.drop i) by have := HSK.out; omega) hi hn1 hn2 (fun t h1 h2 => by rw [HKX.out, HKV.out]; exact HALL.out t h1 h2) (fun h => absurd h hlt))
              rw [HKX.out, HKV.out] at HT
              have HNL := Lib.hid hnl
              clear hnl
              have d0 := cell_at HD.out 0
              have d1 := cell_at HD.out 1
              have d2 := cell_at HD.out 2
              have d3 := cell_at HD.out 3
              have d4 := cell_at HD.out 4
              have dz := lt_of_heap HD.out
              simp only [List.getElem?_toArray, List.getElem?_cons_zero, List.getElem?_cons_succ] at d0 d1 d2 d3 d4
              go_upto_region 14 with fail
              refine region_calm (by kernel_rfl) (by kernel_rfl) ?_
              repeat (quiet_step ((fail)))
              refine wpQuiet_nil ?_
              rintro _ ⟨y, rfl⟩
              have HB := Lib.hid (Later.chain HB.out y)
              generalize y.w = W6 at HB ⊢
              clear y d0 d1 d2 d3 d4 dz
              cases fin with
              | false =>
                have HT2 := Lib.hid (show nextI D (L.drop i) false = none by rw [HT.out, if_pos ⟨HNL.out, rfl⟩])
                go_wp2_with fail
                refine bodyPost_ret (v := .tuple #[.int .i64 0, .int .i64 0, .bool false]) (by simp [results, Tryd.results102, go_sem, *]) rfl (⟨by rw [HT2.out]; rfl, HB.out⟩)
              | true =>
                have hkr := kind_range D kx
                rw [HKV.out] at hkr
                rcases hkr with hk3 | hk3 | hk3 | hk3
                · subst hk3
                  have HT2 := Lib.hid (show nextI D (L.drop i) true = some (n - i, 2) by rw [HT.out, if_neg (by simp), if_neg (by decide)]; rfl)
                  go_wp2_with fail
                  refine bodyPost_ret (v := .tuple #[.int .i64 ((n : Int) - i), .int .i64 2, .bool true]) (by simp [results, Tryd.results102, go_sem, *]) rfl (⟨by rw [HT2.out]; simp only [nxV]; rw [HSUB.out]; rfl, HB.out⟩)
                · subst hk3
                  have HT2 := Lib.hid (show nextI D (L.drop i) true = some (n - i, 3) by rw [HT.out, if_neg (by simp), if_neg (by decide)]; rfl)
                  go_wp2_with fail
                  refine bodyPost_ret (v := .tuple #[.int .i64 ((n : Int) - i), .int .i64 3, .bool true]) (by simp [results, Tryd.results102, go_sem, *]) rfl (⟨by rw [HT2.out]; simp only [nxV]; rw [HSUB.out]; rfl, HB.out⟩)
                · subst hk3
                  have HT2 := Lib.hid (show nextI D (L.drop i) true = some (n - i, 5) by rw [HT.out, if_neg (by simp), if_pos rfl, if_neg (fun h => hlt h.1)])
                  go_wp2_with fail
                  refine bodyPost_ret (v := .tuple #[.int .i64 ((n : Int) - i), .int .i64 5, .bool true]) (by simp [results, Tryd.results102, go_sem, *]) rfl (⟨by rw [HT2.out]; simp only [nxV]; rw [HSUB.out]; rfl, HB.out⟩)
                · subst hk3
                  have HT2 := Lib.hid (show nextI D (L.drop i) true = some (n - i, 4) by rw [HT.out, if_neg (by simp), if_neg (by decide)]; rfl)
                  go_wp2_with fail
                  refine bodyPost_ret (v := .tuple #[.int .i64 ((n : Int) - i), .int .i64 4, .bool true]) (by simp [results, Tryd.results102, go_sem, *]) rfl (⟨by rw [HT2.out]; simp only [nxV]; rw [HSUB.out]; rfl, HB.out⟩)
        · have e1 : (kq != 3) = true := by simp [hk3]
          have HSK := Lib.hid (show skip D (L.drop i) = 1 by
            unfold skip
            rw [if_pos]
            rw [HX0.out, HBB.out, HQ1.out, HKQ.out]
            exact ⟨rfl, by have := HML.out; omega, hk3⟩)
          clear hk3
          refine region_calm (by kernel_rfl) (by kernel_rfl) ?_
          repeat (quiet_step ((exact later_call (HK2.out _))))
          refine wpQuiet_nil ?_
          rintro _ ⟨y, rfl⟩
          have HB := Lib.hid (Later.chain HB.out y)
          have HD := Lib.hid ((y.h.block _ dz).trans HD.out)
          generalize y.w = W4 at HB HD ⊢
          clear y c0 c1 c2 c3 cz d0 d1 d2 d3 d4 dz
          have hjl : i + 1 < L.length := by omega
          have hjz : ((i + 1 : Nat) : Int) < L.length := by omega
          obtain ⟨kx, hkx⟩ : ∃ z, L.getD (i + 1) default = z := ⟨_, rfl⟩
          obtain ⟨kv, hkv⟩ : ∃ z, kind D kx = z := ⟨_, rfl⟩
          have HKX := Lib.hid hkx
          have HKV := Lib.hid hkv
          have HK1 := Lib.hid (fun (y : Later W4) => Kind_calls D p kx y.w (HA.out.below (Later.chain HB.out y)))
          unfold encI at HK1
          rw [hkv] at HK1
          have hcc := HC.out.below HB.out
          have cz := hcc.1
          obtain ⟨c0, c1, c2, c3⟩ := hcc.2 (i + 1) hjl
          rw [hkx] at c0 c1 c2 c3
          clear hcc hkx hkv
          have d0 := cell_at HD.out 0
          have d1 := cell_at HD.out 1
          have d2 := cell_at HD.out 2
          have d3 := cell_at HD.out 3
          have d4 := cell_at HD.out 4
          have dz := lt_of_heap HD.out
          simp only [List.getElem?_toArray, List.getElem?_cons_zero, List.getElem?_cons_succ] at d0 d1 d2 d3 d4
          go_upto_region 12 with fail
          refine region_calm (by kernel_rfl) (by kernel_rfl) ?_
          repeat (quiet_step ((exact later_call (HK1.out _))))
          refine wpQuiet_nil ?_
          rintro _ ⟨y, rfl⟩
          have HB := Lib.hid (Later.chain HB.out y)
          have HD := Lib.hid ((y.h.block _ dz).trans HD.out)
          generalize y.w = W5 at HB HD ⊢
          clear y c0 c1 c2 c3 cz d0 d1 d2 d3 d4 dz
          go_wp2_with fail
          go_loopg [11] (L.length - (i + 1)) (fun g' s11 wr => ∃ n : Nat, i + 1 ≤ n ∧ n ≤ L.length ∧ g' = L.length - n ∧ s11 = .int .i64 n ∧ (∀ t, i + 1 ≤ t → t < n → kind D (L.getD t default) = kv) ∧ wr.heap[rd]? = some (.cells #[.slice p.a0 D.nw p.c0, .slice p.a1 D.nm p.c1, .slice p.a2 D.n0 p.c2, .slice p.a3 D.n1 p.c3, .slice p.a4 D.n2 p.c4] 33 (0, 0)) ∧ Below w.heap.size w wr)
          case atStart => exact ⟨i + 1, Nat.le_refl _, by omega, by omega, by go_num, fun t h1 h2 => by omega, HD.out, HB.out⟩
          case round =>
            obtain ⟨n, hn1, hn2, hg, rfl, hall, hdd, hbb⟩ := hrel
            have HG := Lib.hid hg
            have HALL := Lib.hid hall
            have HD := Lib.hid hdd
            have HB := Lib.hid hbb
            have hwn : IntKind.i64.wrap ((n : Int) - i) = (n : Int) - i := i64w _ (by omega) (by omega)
            have hsub : ((n - i : Nat) : Int) = (n : Int) - i := by omega
            have HSUB := Lib.hid hsub
            clear hg hall hdd hbb hsub
            by_cases hlt : n < L.length
            · have hltz : (n : Int) < L.length := by omega
              have hnez : ((n : Int) == L.length) = false := by rw [beq_eq_false_iff_ne]; omega
              obtain ⟨kq, hkq⟩ : ∃ z, L.getD n default = z := ⟨_, rfl⟩
              obtain ⟨kn, hkn⟩ : ∃ z, kind D kq = z := ⟨_, rfl⟩
              have HKQ := Lib.hid hkq
              have HKN := Lib.hid hkn
              have HK2 := Lib.hid (fun (y : Later wr) => Kind_calls D p kq y.w (HA.out.below (Later.chain HB.out y)))
              unfold encI at HK2
              rw [hkn] at HK2
              have hcc := HC.out.below HB.out
              have cz := hcc.1
              obtain ⟨c0, c1, c2, c3⟩ := hcc.2 n hlt
              rw [hkq] at c0 c1 c2 c3
              clear hcc hkq hkn
              have d0 := cell_at HD.out 0
              have d1 := cell_at HD.out 1
              have d2 := cell_at HD.out 2
              have d3 := cell_at HD.out 3
              have d4 := cell_at HD.out 4
              have dz := lt_of_heap HD.out
              simp only [List.getElem?_toArray, List.getElem?_cons_zero, List.getElem?_cons_succ] at d0 d1 d2 d3 d4
              go_upto_region 14 with fail
              by_cases hkk : kn = kv
              · have e1 : (kn == kv) = true := by rw [hkk]; simp
                have HKK := Lib.hid hkk
                clear hkk
                refine region_calm (by kernel_rfl) (by kernel_rfl) ?_
                repeat (quiet_step ((exact later_call (HK2.out _))))
                refine wpQuiet_nil ?_
                rintro _ ⟨y, rfl⟩
                have HB := Lib.hid (Later.chain HB.out y)
                have HD := Lib.hid ((y.h.block _ dz).trans HD.out)
                generalize y.w = W6 at HB HD ⊢
                clear y c0 c1 c2 c3 cz d0 d1 d2 d3 d4 dz hwn
                go_wp2_with fail
                go_roundg (L.length - (n + 1))
                case measure => have := HG.out; omega
                case rel => exact ⟨n + 1, by omega, by omega, rfl, by go_num, fun t h1 h2 => (Nat.lt_or_ge t n).elim (HALL.out t h1) (fun h => by rw [show t = n by omega, HKQ.out, HKN.out]; exact HKK.out), HD.out, HB.out⟩
              · have e1 : (kn == kv) = false := by rw [beq_eq_false_iff_ne]; exact hkk
                have HT := Lib.hid (next_tail HS0.out HNN.out (show i + 1 = i + skip D (L.drop i) by have := HSK.out; omega) hi hn1 hn2 (fun t h1 h2 => by rw [HKX.out, HKV.out]; exact HALL.out t h1 h2) (fun _ => by rw [HKX.out, HKV.out, HKQ.out, HKN.out]; exact hkk))
                rw [HKX.out, HKV.out] at HT
                have hnl : n ≠ L.length := by omega
                clear hkk
                refine region_calm (by kernel_rfl) (by kernel_rfl) ?_
                repeat (quiet_step ((exact later_call (HK2.out _))))
                refine wpQuiet_nil ?_
                rintro _ ⟨y, rfl⟩
                have HB := Lib.hid (Later.chain HB.out y)
                generalize y.w = W6 at HB ⊢
                clear y c0 c1 c2 c3 cz d0 d1 d2 d3 d4 dz
                have hkr := kind_range D kx
                rw [HKV.out] at hkr
                rcases hkr with hk3 | hk3 | hk3 | hk3
                · subst hk3
                  have HT2 := Lib.hid (show nextI D (L.drop i) fin = some (n - i, 2) by rw [HT.out, if_neg (fun h => hnl h.1), if_neg (by decide)]; rfl)
                  clear hnl
                  go_wp2_with fail
                  refine bodyPost_ret (v := .tuple #[.int .i64 ((n : Int) - i), .int .i64 2, .bool true]) (by simp [results, Tryd.results102, go_sem, *]) rfl (⟨by rw [HT2.out]; simp only [nxV]; rw [HSUB.out]; rfl, HB.out⟩)
                · subst hk3
                  have HT2 := Lib.hid (show nextI D (L.drop i) fin = some (n - i, 3) by rw [HT.out, if_neg (fun h => hnl h.1), if_neg (by decide)]; rfl)
                  clear hnl
                  go_wp2_with fail
                  refine bodyPost_ret (v := .tuple #[.int .i64 ((n : Int) - i), .int .i64 3, .bool true]) (by simp [results, Tryd.results102, go_sem, *]) rfl (⟨by rw [HT2.out]; simp only [nxV]; rw [HSUB.out]; rfl, HB.out⟩)
                · subst hk3
                  by_cases h2 : 2 ≤ n - i
                  · have h2z : (2 : Int) ≤ (n : Int) - i := by omega
                    have hwm : IntKind.i64.wrap ((n : Int) - i - 1) = (n : Int) - i - 1 := i64w _ (by omega) (by omega)
                    have HM := Lib.hid (show ((n - i - 1 : Nat) : Int) = (n : Int) - i - 1 by omega)
                    have HT2 := Lib.hid (show nextI D (L.drop i) fin = some (n - i - 1, 5) by rw [HT.out, if_neg (fun h => hnl h.1), if_pos rfl, if_pos ⟨hlt, h2⟩])
                    clear h2 hnl
                    go_wp2_with fail
                    refine bodyPost_ret (v := .tuple #[.int .i64 ((n : Int) - i - 1), .int .i64 5, .bool true]) (by simp [results, Tryd.results102, go_sem, *]) rfl (⟨by rw [HT2.out]; simp only [nxV]; rw [HM.out]; rfl, HB.out⟩)
                  · have h2z : ¬ ((2 : Int) ≤ (n : Int) - i) := by omega
                    have HT2 := Lib.hid (show nextI D (L.drop i) fin = some (n - i, 5) by rw [HT.out, if_neg (fun h => hnl h.1), if_pos rfl, if_neg (fun h => h2 h.2)])
                    clear h2 hnl
                    go_wp2_with fail
                    refine bodyPost_ret (v := .tuple #[.int .i64 ((n : Int) - i), .int .i64 5, .bool true]) (by simp [results, Tryd.results102, go_sem, *]) rfl (⟨by rw [HT2.out]; simp only [nxV]; rw [HSUB.out]; rfl, HB.out⟩)
                · subst hk3
                  have HT2 := Lib.hid (show nextI D (L.drop i) fin = some (n - i, 4) by rw [HT.out, if_neg (fun h => hnl h.1), if_neg (by decide)]; rfl)
                  clear hnl
                  go_wp2_with fail
                  refine bodyPost_ret (v := .tuple #[.int .i64 ((n : Int) - i), .int .i64 4, .bool true]) (by simp [results, Tryd.results102, go_sem, *]) rfl (⟨by rw [HT2.out]; simp only [nxV]; rw [HSUB.out]; rfl, HB.out⟩)
            · have hnl : n = L.length := by omega
              have hltz : ¬ ((n : Int) < L.length) := by omega
              have heqz : ((n : Int) == L.length) = true := by rw [beq_iff_eq]; omega
              have HT := Lib.hid (next_tail HS0.out HNN.out (show i + 1 = i + skip D (L.drop i) by have := HSK.out; omega) hi hn1 hn2 (fun t h1 h2 => by rw [HKX.out, HKV.out]; exact HALL.out t h1 h2) (fun h => absurd h hlt))
              rw [HKX.out, HKV.out] at HT
              have HNL := Lib.hid hnl
              clear hnl
              have d0 := cell_at HD.out 0
              have d1 := cell_at HD.out 1
              have d2 := cell_at HD.out 2
              have d3 := cell_at HD.out 3
              have d4 := cell_at HD.out 4
              have dz := lt_of_heap HD.out
              simp only [List.getElem?_toArray, List.getElem?_cons_zero, List.getElem?_cons_succ] at d0 d1 d2 d3 d4
              go_upto_region 14 with fail
              refine region_calm (by kernel_rfl) (by kernel_rfl) ?_
              repeat (quiet_step ((fail)))
              refine wpQuiet_nil ?_
              rintro _ ⟨y, rfl⟩
              have HB := Lib.hid (Later.chain HB.out y)
              generalize y.w = W6 at HB ⊢
              clear y d0 d1 d2 d3 d4 dz
              cases fin with
              | false =>
                have HT2 := Lib.hid (show nextI D (L.drop i) false = none by rw [HT.out, if_pos ⟨HNL.out, rfl⟩])
                go_wp2_with fail
                refine bodyPost_ret (v := .tuple #[.int .i64 0, .int .i64 0, .bool false]) (by simp [results, Tryd.results102, go_sem, *]) rfl (⟨by rw [HT2.out]; rfl, HB.out⟩)
              | true =>
                have hkr := kind_range D kx
                rw [HKV.out] at hkr
                rcases hkr with hk3 | hk3 | hk3 | hk3
                · subst hk3
                  have HT2 := Lib.hid (show nextI D (L.drop i) true = some (n - i, 2) by rw [HT.out, if_neg (by simp), if_neg (by decide)]; rfl)
                  go_wp2_with fail
                  refine bodyPost_ret (v := .tuple #[.int .i64 ((n : Int) - i), .int .i64 2, .bool true]) (by simp [results, Tryd.results102, go_sem, *]) rfl (⟨by rw [HT2.out]; simp only [nxV]; rw [HSUB.out]; rfl, HB.out⟩)
                · subst hk3
                  have HT2 := Lib.hid (show nextI D (L.drop i) true = some (n - i, 3) by rw [HT.out, if_neg (by simp), if_neg (by decide)]; rfl)
                  go_wp2_with fail
                  refine bodyPost_ret (v := .tuple #[.int .i64 ((n : Int) - i), .int .i64 3, .bool true]) (by simp [results, Tryd.results102, go_sem, *]) rfl (⟨by rw [HT2.out]; simp only [nxV]; rw [HSUB.out]; rfl, HB.out⟩)
                · subst hk3
                  have HT2 := Lib.hid (show nextI D (L.drop i) true = some (n - i, 5) by rw [HT.out, if_neg (by simp), if_pos rfl, if_neg (fun h => hlt h.1)])
                  go_wp2_with fail
                  refine bodyPost_ret (v := .tuple #[.int .i64 ((n : Int) - i), .int .i64 5, .bool true]) (by simp [results, Tryd.results102, go_sem, *]) rfl (⟨by rw [HT2.out]; simp only [nxV]; rw [HSUB.out]; rfl, HB.out⟩)
                · subst hk3
                  have HT2 := Lib.hid (show nextI D (L.drop i) true = some (n - i, 4) by rw [HT.out, if_neg (by simp), if_neg (by decide)]; rfl)
                  go_wp2_with fail
                  refine bodyPost_ret (v := .tuple #[.int .i64 ((n : Int) - i), .int .i64 4, .bool true]) (by simp [results, Tryd.results102, go_sem, *]) rfl (⟨by rw [HT2.out]; simp only [nxV]; rw [HSUB.out]; rfl, HB.out⟩)
      · have hl1 : (L.length : Int) ≤ (i : Int) + 1 := by omega
        have hl2 : ¬ ((i : Int) + 1 < L.length) := by omega
        have cb1 : decide ((i : Int) + 1 < L.length) = false := decide_eq_false hl2
        cases fin with
        | false =>
          have HT2 := Lib.hid (show nextI D (L.drop i) false = none by
            unfold nextI
            rw [HS0.out]
            simp only
            rw [if_pos ⟨by rw [HX0.out]; exact HBB.out, by have := HML.out; omega, trivial⟩])
          go_wp2_with fail
          refine bodyPost_ret (v := .tuple #[.int .i64 0, .int .i64 0, .bool false]) (by simp [results, Tryd.results102, go_sem, *]) rfl (⟨by rw [HT2.out]; rfl, HB.out⟩)
        | true =>
          have hnn : ¬ (is ((L.drop i).getD 0 default) 32 = true ∧ (L.drop i).length ≤ 1 ∧ true = false) := by simp
          have HNN := Lib.hid hnn
          have HSK := Lib.hid (show skip D (L.drop i) = 0 by unfold skip; rw [if_neg]; have := HML.out; omega)
          clear hnn
          have d0 := cell_at HD.out 0
          have d1 := cell_at HD.out 1
          have d2 := cell_at HD.out 2
          have d3 := cell_at HD.out 3
          have d4 := cell_at HD.out 4
          have dz := lt_of_heap HD.out
          simp only [List.getElem?_toArray, List.getElem?_cons_zero, List.getElem?_cons_succ] at d0 d1 d2 d3 d4
          go_upto_region 10 with fail
          refine region_calm (by kernel_rfl) (by kernel_rfl) ?_
          repeat (quiet_step ((fail)))
          refine wpQuiet_nil ?_
          rintro _ ⟨y, rfl⟩
          have HB := Lib.hid (Later.chain HB.out y)
          have HD := Lib.hid ((y.h.block _ dz).trans HD.out)
          generalize y.w = W4 at HB HD ⊢
          clear y d0 d1 d2 d3 d4 dz
          have hjl : i < L.length := by omega
          have hjz : ((i : Nat) : Int) < L.length := by omega
          obtain ⟨kx, hkx⟩ : ∃ z, L.getD (i) default = z := ⟨_, rfl⟩
          obtain ⟨kv, hkv⟩ : ∃ z, kind D kx = z := ⟨_, rfl⟩
          have HKX := Lib.hid hkx
          have HKV := Lib.hid hkv
          have HK1 := Lib.hid (fun (y : Later W4) => Kind_calls D p kx y.w (HA.out.below (Later.chain HB.out y)))
          unfold encI at HK1
          rw [hkv] at HK1
          have hcc := HC.out.below HB.out
          have cz := hcc.1
          obtain ⟨c0, c1, c2, c3⟩ := hcc.2 (i) hjl
          rw [hkx] at c0 c1 c2 c3
          clear hcc hkx hkv
          have d0 := cell_at HD.out 0
          have d1 := cell_at HD.out 1
          have d2 := cell_at HD.out 2
          have d3 := cell_at HD.out 3
          have d4 := cell_at HD.out 4
          have dz := lt_of_heap HD.out
          simp only [List.getElem?_toArray, List.getElem?_cons_zero, List.getElem?_cons_succ] at d0 d1 d2 d3 d4
          go_upto_region 12 with fail
          refine region_calm (by kernel_rfl) (by kernel_rfl) ?_
          repeat (quiet_step ((exact later_call (HK1.out _))))
          refine wpQuiet_nil ?_
          rintro _ ⟨y, rfl⟩
          have HB := Lib.hid (Later.chain HB.out y)
          have HD := Lib.hid ((y.h.block _ dz).trans HD.out)
          generalize y.w = W5 at HB HD ⊢
          clear y c0 c1 c2 c3 cz d0 d1 d2 d3 d4 dz
          go_wp2_with fail
          go_loopg [11] (L.length - (i)) (fun g' s11 wr => ∃ n : Nat, i ≤ n ∧ n ≤ L.length ∧ g' = L.length - n ∧ s11 = .int .i64 n ∧ (∀ t, i ≤ t → t < n → kind D (L.getD t default) = kv) ∧ wr.heap[rd]? = some (.cells #[.slice p.a0 D.nw p.c0, .slice p.a1 D.nm p.c1, .slice p.a2 D.n0 p.c2, .slice p.a3 D.n1 p.c3, .slice p.a4 D.n2 p.c4] 33 (0, 0)) ∧ Below w.heap.size w wr)
          case atStart => exact ⟨i, Nat.le_refl _, by omega, by omega, by go_num, fun t h1 h2 => by omega, HD.out, HB.out⟩
          case round =>
            obtain ⟨n, hn1, hn2, hg, rfl, hall, hdd, hbb⟩ := hrel
            have HG := Lib.hid hg
            have HALL := Lib.hid hall
            have HD := Lib.hid hdd
            have HB := Lib.hid hbb
            have hwn : IntKind.i64.wrap ((n : Int) - i) = (n : Int) - i := i64w _ (by omega) (by omega)
            have hsub : ((n - i : Nat) : Int) = (n : Int) - i := by omega
            have HSUB := Lib.hid hsub
            clear hg hall hdd hbb hsub
            by_cases hlt : n < L.length
            · have hltz : (n : Int) < L.length := by omega
              have hnez : ((n : Int) == L.length) = false := by rw [beq_eq_false_iff_ne]; omega
              obtain ⟨kq, hkq⟩ : ∃ z, L.getD n default = z := ⟨_, rfl⟩
              obtain ⟨kn, hkn⟩ : ∃ z, kind D kq = z := ⟨_, rfl⟩
              have HKQ := Lib.hid hkq
              have HKN := Lib.hid hkn
              have HK2 := Lib.hid (fun (y : Later wr) => Kind_calls D p kq y.w (HA.out.below (Later.chain HB.out y)))
              unfold encI at HK2
              rw [hkn] at HK2
              have hcc := HC.out.below HB.out
              have cz := hcc.1
              obtain ⟨c0, c1, c2, c3⟩ := hcc.2 n hlt
              rw [hkq] at c0 c1 c2 c3
              clear hcc hkq hkn
              have d0 := cell_at HD.out 0
              have d1 := cell_at HD.out 1
              have d2 := cell_at HD.out 2
              have d3 := cell_at HD.out 3
              have d4 := cell_at HD.out 4
              have dz := lt_of_heap HD.out
              simp only [List.getElem?_toArray, List.getElem?_cons_zero, List.getElem?_cons_succ] at d0 d1 d2 d3 d4
              go_upto_region 14 with fail
              by_cases hkk : kn = kv
              · have e1 : (kn == kv) = true := by rw [hkk]; simp
                have HKK := Lib.hid hkk
                clear hkk
                refine region_calm (by kernel_rfl) (by kernel_rfl) ?_
                repeat (quiet_step ((exact later_call (HK2.out _))))
                refine wpQuiet_nil ?_
                rintro _ ⟨y, rfl⟩
                have HB := Lib.hid (Later.chain HB.out y)
                have HD := Lib.hid ((y.h.block _ dz).trans HD.out)
                generalize y.w = W6 at HB HD ⊢
                clear y c0 c1 c2 c3 cz d0 d1 d2 d3 d4 dz hwn
                go_wp2_with fail
                go_roundg (L.length - (n + 1))
                case measure => have := HG.out; omega
                case rel => exact ⟨n + 1, by omega, by omega, rfl, by go_num, fun t h1 h2 => (Nat.lt_or_ge t n).elim (HALL.out t h1) (fun h => by rw [show t = n by omega, HKQ.out, HKN.out]; exact HKK.out), HD.out, HB.out⟩
              · have e1 : (kn == kv) = false := by rw [beq_eq_false_iff_ne]; exact hkk
                have HT := Lib.hid (next_tail HS0.out HNN.out (show i = i + skip D (L.drop i) by have := HSK.out; omega) hi hn1 hn2 (fun t h1 h2 => by rw [HKX.out, HKV.out]; exact HALL.out t h1 h2) (fun _ => by rw [HKX.out, HKV.out, HKQ.out, HKN.out]; exact hkk))
                rw [HKX.out, HKV.out] at HT
                have hnl : n ≠ L.length := by omega
                clear hkk
                refine region_calm (by kernel_rfl) (by kernel_rfl) ?_
                repeat (quiet_step ((exact later_call (HK2.out _))))
                refine wpQuiet_nil ?_
                rintro _ ⟨y, rfl⟩
                have HB := Lib.hid (Later.chain HB.out y)
                generalize y.w = W6 at HB ⊢
                clear y c0 c1 c2 c3 cz d0 d1 d2 d3 d4 dz
                have hkr := kind_range D kx
                rw [HKV.out] at hkr
                rcases hkr with hk3 | hk3 | hk3 | hk3
                · subst hk3
                  have HT2 := Lib.hid (show nextI D (L.drop i) true = some (n - i, 2) by rw [HT.out, if_neg (fun h => hnl h.1), if_neg (by decide)]; rfl)
                  clear hnl
                  go_wp2_with fail
                  refine bodyPost_ret (v := .tuple #[.int .i64 ((n : Int) - i), .int .i64 2, .bool true]) (by simp [results, Tryd.results102, go_sem, *]) rfl (⟨by rw [HT2.out]; simp only [nxV]; rw [HSUB.out]; rfl, HB.out⟩)
                · subst hk3
                  have HT2 := Lib.hid (show nextI D (L.drop i) true = some (n - i, 3) by rw [HT.out, if_neg (fun h => hnl h.1), if_neg (by decide)]; rfl)
                  clear hnl
                  go_wp2_with fail
                  refine bodyPost_ret (v := .tuple #[.int .i64 ((n : Int) - i), .int .i64 3, .bool true]) (by simp [results, Tryd.results102, go_sem, *]) rfl (⟨by rw [HT2.out]; simp only [nxV]; rw [HSUB.out]; rfl, HB.out⟩)
                · subst hk3
                  by_cases h2 : 2 ≤ n - i
                  · have h2z : (2 : Int) ≤ (n : Int) - i := by omega
                    have hwm : IntKind.i64.wrap ((n : Int) - i - 1) = (n : Int) - i - 1 := i64w _ (by omega) (by omega)
                    have HM := Lib.hid (show ((n - i - 1 : Nat) : Int) = (n : Int) - i - 1 by omega)
                    have HT2 := Lib.hid (show nextI D (L.drop i) true = some (n - i - 1, 5) by rw [HT.out, if_neg (fun h => hnl h.1), if_pos rfl, if_pos ⟨hlt, h2⟩])
                    clear h2 hnl
                    go_wp2_with fail
                    refine bodyPost_ret (v := .tuple #[.int .i64 ((n : Int) - i - 1), .int .i64 5, .bool true]) (by simp [results, Tryd.results102, go_sem, *]) rfl (⟨by rw [HT2.out]; simp only [nxV]; rw [HM.out]; rfl, HB.out⟩)
                  · have h2z : ¬ ((2 : Int) ≤ (n : Int) - i) := by omega
                    have HT2 := Lib.hid (show nextI D (L.drop i) true = some (n - i, 5) by rw [HT.out, if_neg (fun h => hnl h.1), if_pos rfl, if_neg (fun h => h2 h.2)])
                    clear h2 hnl
                    go_wp2_with fail
                    refine bodyPost_ret (v := .tuple #[.int .i64 ((n : Int) - i), .int .i64 5, .bool true]) (by simp [results, Tryd.results102, go_sem, *]) rfl (⟨by rw [HT2.out]; simp only [nxV]; rw [HSUB.out]; rfl, HB.out⟩)
                · subst hk3
                  have HT2 := Lib.hid (show nextI D (L.drop i) true = some (n - i, 4) by rw [HT.out, if_neg (fun h => hnl h.1), if_neg (by decide)]; rfl)
                  clear hnl
                  go_wp2_with fail
                  refine bodyPost_ret (v := .tuple #[.int .i64 ((n : Int) - i), .int .i64 4, .bool true]) (by simp [results, Tryd.results102, go_sem, *]) rfl (⟨by rw [HT2.out]; simp only [nxV]; rw [HSUB.out]; rfl, HB.out⟩)
            · have hnl : n = L.length := by omega
              have hltz : ¬ ((n : Int) < L.length) := by omega
              have heqz : ((n : Int) == L.length) = true := by rw [beq_iff_eq]; omega
              have HT := Lib.hid (next_tail HS0.out HNN.out (show i = i + skip D (L.drop i) by have := HSK.out; omega) hi hn1 hn2 (fun t h1 h2 => by rw [HKX.out, HKV.out]; exact HALL.out t h1 h2) (fun h => absurd h hlt))
              rw [HKX.out, HKV.out] at HT
              have HNL := Lib.hid hnl
              clear hnl
              have d0 := cell_at HD.out 0
              have d1 := cell_at HD.out 1
              have d2 := cell_at HD.out 2
              have d3 := cell_at HD.out 3
              have d4 := cell_at HD.out 4
              have dz := lt_of_heap HD.out
              simp only [List.getElem?_toArray, List.getElem?_cons_zero, List.getElem?_cons_succ] at d0 d1 d2 d3 d4
              go_upto_region 14 with fail
              refine region_calm (by kernel_rfl) (by kernel_rfl) ?_
              repeat (quiet_step ((fail)))
              refine wpQuiet_nil ?_
              rintro _ ⟨y, rfl⟩
              have HB := Lib.hid (Later.chain HB.out y)
              generalize y.w = W6 at HB ⊢
              clear y d0 d1 d2 d3 d4 dz
              have hkr := kind_range D kx
              rw [HKV.out] at hkr
              rcases hkr with hk3 | hk3 | hk3 | hk3
              · subst hk3
                have HT2 := Lib.hid (show nextI D (L.drop i) true = some (n - i, 2) by rw [HT.out, if_neg (by simp), if_neg (by decide)]; rfl)
                go_wp2_with fail
                refine bodyPost_ret (v := .tuple #[.int .i64 ((n : Int) - i), .int .i64 2, .bool true]) (by simp [results, Tryd.results102, go_sem, *]) rfl (⟨by rw [HT2.out]; simp only [nxV]; rw [HSUB.out]; rfl, HB.out⟩)
              · subst hk3
                have HT2 := Lib.hid (show nextI D (L.drop i) true = some (n - i, 3) by rw [HT.out, if_neg (by simp), if_neg (by decide)]; rfl)
                go_wp2_with fail
                refine bodyPost_ret (v := .tuple #[.int .i64 ((n : Int) - i), .int .i64 3, .bool true]) (by simp [results, Tryd.results102, go_sem, *]) rfl (⟨by rw [HT2.out]; simp only [nxV]; rw [HSUB.out]; rfl, HB.out⟩)
              · subst hk3
                have HT2 := Lib.hid (show nextI D (L.drop i) true = some (n - i, 5) by rw [HT.out, if_neg (by simp), if_pos rfl, if_neg (fun h => hlt h.1)])
                go_wp2_with fail
                refine bodyPost_ret (v := .tuple #[.int .i64 ((n : Int) - i), .int .i64 5, .bool true]) (by simp [results, Tryd.results102, go_sem, *]) rfl (⟨by rw [HT2.out]; simp only [nxV]; rw [HSUB.out]; rfl, HB.out⟩)
              · subst hk3
                have HT2 := Lib.hid (show nextI D (L.drop i) true = some (n - i, 4) by rw [HT.out, if_neg (by simp), if_neg (by decide)]; rfl)
                go_wp2_with fail
                refine bodyPost_ret (v := .tuple #[.int .i64 ((n : Int) - i), .int .i64 4, .bool true]) (by simp [results, Tryd.results102, go_sem, *]) rfl (⟨by rw [HT2.out]; simp only [nxV]; rw [HSUB.out]; rfl, HB.out⟩)
end Go.Proofs.YtendkmldecoogaaDoor.RefNext
