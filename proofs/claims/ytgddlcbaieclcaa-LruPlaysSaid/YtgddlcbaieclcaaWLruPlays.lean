/-
  The walk of the law LruPlays.
-/
import Derived.Test.YtgddlcbaieclcaaLruRef
import Derived.Test.YtgddlcbaieclcaaLruOpen
import Derived.Test.YtgddlcbaieclcaaLruKnown
namespace Go.Proofs.Ytgddlcbaieclcaa.lruPlays
open Go Go.RowKit Go.Proofs.Ytgddlcbaieclcaa.Kit Go.Proofs.Ytgddlcbaieclcaa.LruK Go.Proofs.Ytgddlcbaieclcaa.LrugetK Go.Proofs.Ytgddlcbaieclcaa.LrukeysK Go.Proofs.Ytgddlcbaieclcaa.LruabsK Go.Proofs.Ytgddlcbaieclcaa.LruAcc Go.Proofs.Ytgddlcbaieclcaa.LruOpen Go.Proofs.Ytgddlcbaieclcaa.LruRef
attribute [local irreducible] wpQuiet

def iv (L : List En3) : List (Ky × Value) := L.map fun e => (e.1, .int .i64 e.2)
theorem iv_len (L : List En3) : (iv L).length = L.length := by simp [iv]
theorem iv_keys (L : List En3) : (iv L).map (·.1) = L.map (·.1) := by simp [iv, Function.comp_def]
theorem iv_mid (A B : List En3) (k : Ky) (v : Int) : iv (A ++ (k, v) :: B) = iv A ++ (k, .int .i64 v) :: iv B := by simp [iv]
theorem iv_cons (A B : List En3) (k : Ky) (v : Int) : iv ((k, v) :: (A ++ B)) = (k, .int .i64 v) :: (iv A ++ iv B) := by simp [iv]
theorem iv_getD (L : List En3) {j : Nat} (A B : List En3) (e : En3) (hL : L = A ++ e :: B) (hj : A.length = j) : (iv L).getD j ((0, 0), undef) = (e.1, .int .i64 e.2) := by
  subst hj
  subst hL
  simp [iv, List.getD]

/-- The cache, and the list that the law keeps beside it. -/
structure St (w : World) (c n base : Nat) (L : List En3) (F : Nat → Prop) (a : Option Addr) (cap : Nat) : Prop where
  x : Fine w c n (iv L) F
  l : RRow w a L cap
  far : ∀ x, a = some x → base ≤ x.block ∧ ¬ F x.block
  old : ∀ i, F i → base ≤ i

theorem St.below {w w' : World} {c n base : Nat} {L : List En3} {F : Nat → Prop} {a : Option Addr} {cap : Nat} (h : St w c n base L F a cap) (hb : Below w.heap.size w w') : St w' c n base L F a cap := ⟨h.x.below hb, h.l.below hb, h.far, h.old⟩
theorem St.len {w : World} {c n base : Nat} {L : List En3} {F : Nat → Prop} {a : Option Addr} {cap : Nat} (h : St w c n base L F a cap) : L.length ≤ n := by have := h.x.2; rwa [iv_len] at this

def KeysI (L : List En3) (m : Nat) (w : World) (x : Ending) (w' : World) : Prop :=
  ∃ a cap, x = .returned (.slice a m cap) ∧ SameKey.Row w' a m (fun i => ((iv L).getD i ((0, 0), undef)).1.1) (fun i => ((iv L).getD i ((0, 0), undef)).1.2) ∧ Below w.heap.size w w'
theorem keysI {w : World} {c n : Nat} {L : List En3} {F : Nat → Prop} (h : Fine w c n (iv L) F) (hn : n ≤ 4096) {m : Nat} (hm : L.length = m) :
    Calls Try.prog 45 #[.pointer (some ⟨c, 0, none⟩)] w (KeysI L m w) := by
  subst hm
  refine (keys h.1 (by have := h.2; omega)).mono ?_
  rintro x w' ⟨a, cap, rfl, _, _, hr, _, _, hb⟩
  rw [iv_len] at hr ⊢
  exact ⟨a, cap, rfl, hr, hb⟩
theorem lenI {w : World} {c n : Nat} {L : List En3} {F : Nat → Prop} (h : Fine w c n (iv L) F) {m : Nat} (hm : L.length = m) :
    Calls Try.prog 46 #[.pointer (some ⟨c, 0, none⟩)] w fun x w' => x = .returned (.int .i64 m) ∧ w = w' := by
  subst hm
  have := len h.1
  rwa [iv_len] at this

theorem acc_iv_yes {n : Nat} {A B : List En3} {k : Ky} {v v' : Int} (h : ((iv (A ++ (k, v) :: B)).map (·.1)).Nodup) (hl : (A ++ (k, v) :: B).length ≤ n) : acc n (iv (A ++ (k, v) :: B)) k (.int .i64 v') = iv ((k, v') :: (A ++ B)) := by
  rw [iv_mid] at h ⊢
  rw [acc_yes h (by rw [← iv_mid, iv_len]; exact hl), iv_cons]
theorem acc_iv_no {n : Nat} {L : List En3} {k : Ky} {v : Int} (h : k ∉ L.map (·.1)) : acc n (iv L) k (.int .i64 v) = iv (((k, v) :: L).take n) := by
  unfold acc
  rw [drop_no (by rw [iv_keys]; exact h)]
  simp [iv, List.map_take]

set_option maxHeartbeats 8000000 in
set_option maxRecDepth 100000 in
theorem walk (n0 : Int) (a : Option Addr) (len cap : Nat) (f : Nat → Play) (w : World) (_ : -9223372036854775808 ≤ n0 ∧ n0 ≤ 9223372036854775807) (hr : Row w a len f) (hl : len ≤ 35184372088832) :
    Calls Try.prog 10 #[.int .i64 n0, .slice a len cap] w fun x w' => x = .returned (.bool true) ∧ Below w.heap.size w w' := by
  have HR := Lib.hid hr
  clear hr
  go_enter Try.func10, Try.ntmps10
  go_wp2_with fail
  by_cases hn1 : 0 ≤ n0
  case neg =>
    refine (New_no n0 w (.inl (by omega))).mono ?_
    rintro e w0 ⟨rfl, rfl⟩
    have hn2 : n0 < 0 := by omega
    go_wp2_with fail
    refine (LruKnown.known_calls w).mono ?_
    rintro e w9 ⟨rfl, hb9⟩
    have HB9 := Lib.hid hb9
    clear hb9
    go_wp2
    go_ret
    exact ⟨rfl, HB9.out⟩
  by_cases hn2 : n0 ≤ 4096
  case neg =>
    refine (New_no n0 w (.inr (by omega))).mono ?_
    rintro e w0 ⟨rfl, rfl⟩
    have hn3 : 4096 < n0 := by omega
    go_wp2_with fail
    refine (LruKnown.known_calls w).mono ?_
    rintro e w9 ⟨rfl, hb9⟩
    have HB9 := Lib.hid hb9
    clear hb9
    go_wp2
    go_ret
    exact ⟨rfl, HB9.out⟩
  obtain ⟨n, rfl⟩ := Int.eq_ofNat_of_zero_le hn1
  have hn4 : n ≤ 4096 := by omega
  refine (new n w (by omega) (by omega)).mono ?_
  rintro e w1 ⟨c, F1, rfl, h1, hf1, hb1⟩
  rw [Int.toNat_natCast] at h1
  have HS1 := Lib.hid (⟨⟨h1, Nat.zero_le _⟩, ⟨Nat.zero_le _, Nat.zero_le _, .inl ⟨rfl, rfl, rfl⟩⟩, fun x hx => (by cases hx), hf1⟩ : St w1 c n w.heap.size [] F1 none 0)
  have HB1 := Lib.hid hb1
  clear h1 hf1 hb1
  go_wp2_with fail
  go_loopg [7, 8] 100 (fun g s7 s8 wr => ∃ (k : Nat) (L : List En3) (F : Nat → Prop) (al : Option Addr) (cl : Nat), k ≤ len ∧ k ≤ 100 ∧ g = 100 - k ∧ s7 = .slice al L.length cl ∧ s8 = .int .i64 k ∧ St wr c n w.heap.size L F al cl ∧ Below w.heap.size w wr)
  case atStart => exact ⟨0, [], F1, none, 0, by omega, by omega, by omega, rfl, rfl, HS1.out, HB1.out⟩
  case round =>
    obtain ⟨k, L, F, al, cl, hk, hk2, hg, rfl, rfl, hS, hbw⟩ := hrel
    have HG := Lib.hid hg
    have HS := Lib.hid hS
    have HBW := Lib.hid hbw
    have hLn := hS.len
    clear hg hS hbw
    by_cases hlt : k < len
    case neg =>
      have hi : ¬ ((k : Int) < len) := by omega
      go_wp2_with fail
      refine (LruKnown.known_calls wr).mono ?_
      rintro e w3 ⟨rfl, hb3⟩
      have HB3 := Lib.hid (chain HBW.out hb3)
      clear hb3
      go_wp2
      go_ret
      exact ⟨rfl, HB3.out⟩
    by_cases hlt2 : k < 100
    case neg =>
      have hi2 : ¬ ((k : Int) < 100) := by omega
      have hi : (k : Int) < len := by omega
      go_wp2_with fail
      refine (LruKnown.known_calls wr).mono ?_
      rintro e w3 ⟨rfl, hb3⟩
      have HB3 := Lib.hid (chain HBW.out hb3)
      clear hb3
      go_wp2
      go_ret
      exact ⟨rfl, HB3.out⟩
    obtain ⟨b, off, rfl, hbl, hc⟩ := HR.out.at hlt
    have e0 := (HBW.out.cell (p := ⟨b, off + k * 4, none⟩) hbl).trans (hc k hlt).1
    have e1 := (HBW.out.cell (p := ⟨b, off + k * 4 + 1, none⟩) hbl).trans (hc k hlt).2.1
    have e2 := (HBW.out.cell (p := ⟨b, off + k * 4 + 2, none⟩) hbl).trans (hc k hlt).2.2.1
    have e3 := (HBW.out.cell (p := ⟨b, off + k * 4 + 3, none⟩) hbl).trans (hc k hlt).2.2.2
    have hi : (k : Int) < len := by omega
    have hi2 : (k : Int) < 100 := by omega
    have hbl2 : b < wr.heap.size := Nat.lt_of_lt_of_le hbl HBW.out.size
    obtain ⟨pt, hpt⟩ : ∃ x, x = (f k).put := ⟨_, rfl⟩
    obtain ⟨ka, hka⟩ : ∃ x, x = (f k).a := ⟨_, rfl⟩
    obtain ⟨kb, hkb⟩ : ∃ x, x = (f k).b := ⟨_, rfl⟩
    obtain ⟨kv, hkv⟩ : ∃ x, x = (f k).v := ⟨_, rfl⟩
    rw [← hpt] at e0
    rw [← hka] at e1
    rw [← hkb] at e2
    rw [← hkv] at e3
    clear hc hpt hka hkb hkv
    obtain ⟨W3, hW3⟩ : ∃ W3, wr.alloc (.cells #[.bool pt, .int .i64 ka, .int .i64 kb, .int .i64 kv] 76) = W3 := ⟨_, rfl⟩
    have hb3 : Below wr.heap.size wr W3 := by rw [← hW3]; exact (Below.refl _ _).alloc (Nat.le_refl _) _
    have hx3 : W3.heap[wr.heap.size]? = some (.cells #[.bool pt, .int .i64 ka, .int .i64 kb, .int .i64 kv] 76 (0, 0)) := by rw [← hW3]; exact alloc_new rfl
    obtain ⟨bx, hbx⟩ : ∃ bx, wr.heap.size = bx := ⟨_, rfl⟩
    have HX3 := Lib.hid (hbx ▸ hx3 : W3.heap[bx]? = some (.cells #[.bool pt, .int .i64 ka, .int .i64 kb, .int .i64 kv] 76 (0, 0)))
    have NF := Lib.hid (fun h => by have := HS.out.x.1.lt h; omega : ¬ F bx)
    have HS3 := Lib.hid (HS.out.below hb3)
    have HB3 := Lib.hid (chain HBW.out hb3)
    have c0 := cell_at HX3.out 0
    have c1 := cell_at HX3.out 1
    have c2 := cell_at HX3.out 2
    have c3 := cell_at HX3.out 3
    simp only [List.getElem?_toArray, List.getElem?_cons_zero, List.getElem?_cons_succ] at c0 c1 c2 c3
    have zx := lt_of_heap HX3.out
    clear hb3 hx3
    go_wp2_with fail
    clear hW3 hbx e0 e1 e2 e3 hbl2 c0 c1 c2 c3 zx hi hi2
    refine (find_calls al cl L (ka, kb) W3 HS3.out.l).mono ?_
    rintro e w4 ⟨r, rfl, hfd, hb4⟩
    have HFD := Lib.hid hfd
    have HX4 := Lib.hid ((hb4.block bx (lt_of_heap HX3.out)).trans HX3.out)
    have HS4 := Lib.hid (HS3.out.below hb4)
    have HB4 := Lib.hid (chain HB3.out hb4)
    clear hfd hb4
    obtain ⟨W5, hW5⟩ : ∃ W5, w4.alloc (.cells #[.int .i64 ka, .int .i64 kb, .int .i64 kv] 79) = W5 := ⟨_, rfl⟩
    have hb5 : Below w4.heap.size w4 W5 := by rw [← hW5]; exact (Below.refl _ _).alloc (Nat.le_refl _) _
    have hy5 : W5.heap[w4.heap.size]? = some (.cells #[.int .i64 ka, .int .i64 kb, .int .i64 kv] 79 (0, 0)) := by rw [← hW5]; exact alloc_new rfl
    obtain ⟨by', hby⟩ : ∃ by', w4.heap.size = by' := ⟨_, rfl⟩
    have HY5 := Lib.hid (hby ▸ hy5 : W5.heap[by']? = some (.cells #[.int .i64 ka, .int .i64 kb, .int .i64 kv] 79 (0, 0)))
    have HX5 := Lib.hid ((hb5.block bx (lt_of_heap HX4.out)).trans HX4.out)
    have NFY := Lib.hid (fun h => by have := HS4.out.x.1.lt h; omega : ¬ F by')
    have hxy : bx ≠ by' := by have := lt_of_heap HX4.out; omega
    have hfa : ∀ x, al = some x → x.block ≠ by' := fun x hx => by
      rcases HS4.out.l.2.2 with ⟨h, _⟩ | ⟨b, h, hb, _⟩
      · rw [h] at hx; cases hx
      · rw [h] at hx; cases hx; simp only; omega
    have HFA := Lib.hid hfa
    have HS5 := Lib.hid (HS4.out.below hb5)
    have HB5 := Lib.hid (chain HB4.out hb5)
    have HWB := Lib.hid (by rw [← hby]; exact HB4.out.size : w.heap.size ≤ by')
    have c0 := cell_at HX4.out 0
    have c1 := cell_at HX4.out 1
    have c2 := cell_at HX4.out 2
    have c3 := cell_at HX4.out 3
    have d0 := cell_at HX5.out 0
    have d1 := cell_at HX5.out 1
    have d2 := cell_at HX5.out 2
    have d3 := cell_at HX5.out 3
    have y0 := cell_at HY5.out 0
    have y1 := cell_at HY5.out 1
    have y2 := cell_at HY5.out 2
    have yf := free_at HY5.out 2
    simp only [List.getElem?_toArray, List.getElem?_cons_zero, List.getElem?_cons_succ] at c0 c1 c2 c3 d0 d1 d2 d3 y0 y1 y2
    have zx4 := lt_of_heap HX4.out
    have zx := lt_of_heap HX5.out
    have zy := lt_of_heap HY5.out
    clear hb5 hy5 hfa
    obtain ⟨i0, hi0, hz0, hz1, hz2⟩ := info_parts info3
    rcases HFD.out with ⟨hno, rfl⟩ | ⟨A, v, B, hL, hA, rfl⟩
    have HNO := Lib.hid hno
    clear hno HFD
    cases pt
    case false =>
      go_wp2_with fail
      clear hW5 hby
      have gi := get_no HS5.out.x.1 (ka, kb) (by rw [iv_keys]; exact HNO.out)
      simp only [encK] at gi
      refine gi.mono ?_
      clear gi
      rintro e w6 ⟨rfl, hb6⟩
      have hS := HS5.out.below hb6
      have hB := chain HB5.out hb6
      have HY6 := Lib.hid ((hb6.block by' (lt_of_heap HY5.out)).trans HY5.out)
      clear hb6 c0 c1 c2 c3 d0 d1 d2 d3 y0 y1 y2 yf zx4 zx zy
      obtain ⟨LL, hLL0⟩ : ∃ LL : List En3, LL = L := ⟨_, rfl⟩
      rw [← hLL0] at hS ⊢
      obtain ⟨m, hm⟩ : ∃ m, LL.length = m := ⟨_, rfl⟩
      rw [hm]
      have HM := Lib.hid hm
      clear hm hLL0
      go_wp2_with fail
      have HST := Lib.hid hS
      have HBT := Lib.hid hB
      have hLL : m ≤ n := by have := hS.len; rw [HM.out] at this; exact this
      clear hS hB
      refine (keysI HST.out.x hn4 HM.out).mono ?_
      rintro e w20 ⟨a1, cap1, rfl, hr1, hb20⟩
      have HS20 := Lib.hid (HST.out.below hb20)
      have HB20 := Lib.hid (chain HBT.out hb20)
      have HR20 := Lib.hid hr1
      clear hb20 hr1 
      go_wp2_with fail
      refine (lenI HS20.out.x HM.out).mono ?_
      rintro e w21 ⟨rfl, rfl⟩
      go_wp2_with fail
      obtain ⟨wo, hwo⟩ : ∃ wo : World, wo = w20 := ⟨_, rfl⟩
      rw [← hwo] at HS20 HB20 HR20 ⊢
      clear hwo
      go_loopg [15] (m) (fun g s15 wi => ∃ j : Nat, j ≤ m ∧ g = m - j ∧ s15 = .int .i64 j ∧ Below wo.heap.size wo wi)
      case atStart => exact ⟨0, Nat.zero_le _, by omega, rfl, Below.refl _ _⟩
      case round =>
        obtain ⟨j, hj, hg, rfl, hbi⟩ := hrel
        have HGI := Lib.hid hg
        have HBI := Lib.hid hbi
        clear hg hbi
        by_cases hjl : j < m
        · obtain ⟨q, he, hti, -⟩ := split_at (L := LL) (i := j) (by rw [HM.out]; exact hjl)
          have HRR := HS20.out.l.below HBI.out
          have hR1 := (HR20.out.below HBI.out)
          obtain ⟨b1, o1, rfl, hb1, hc1⟩ := hR1.at hjl
          have g0 := (hc1 j hjl).1
          have g1 := (hc1 j hjl).2
          rw [iv_getD LL _ _ q he hti] at g0 g1
          rw [he] at HRR
          obtain ⟨b2, rfl, hb2, f0, f1, -⟩ := HRR.at
          rw [hti] at f0 f1
          have hi : (j : Int) < m := by omega
          obtain ⟨q0, hq0⟩ : ∃ z, z = q.1.1 := ⟨_, rfl⟩
          obtain ⟨q1, hq1⟩ : ∃ z, z = q.1.2 := ⟨_, rfl⟩
          simp only [← hq0] at g0 f0
          simp only [← hq1] at g1 f1
          clear he hti hc1 HRR hR1 hq0 hq1
          go_wp2
          refine region_calm (by kernel_rfl) (by kernel_rfl) ?_
          repeat (quiet_step ((fail)))
          refine wpQuiet_nil ?_
          rintro _ ⟨x, rfl⟩
          go_wp2
          go_roundg (gk - 1)
          case measure => have := HGI.out; omega
          case rel => exact ⟨j + 1, by omega, by have := HGI.out; omega, by go_num, Later.chain HBI.out x⟩
        · have hjm : j = m := by omega
          have hi : ¬ ((j : Int) < m) := by omega
          clear hjm
          go_wp2_with fail
          go_roundg (100 - (k + 1))
          case measure => have := HG.out; omega
          case rel => exact ⟨k + 1, LL, _, _, _, by omega, by omega, rfl, by rw [HM.out], by go_num, HS20.out.below HBI.out, chain HB20.out HBI.out⟩
    case true =>
      go_wp2_with fail
      clear hW5 hby
      by_cases hfull : L.length = n
      · skip
        have HFU := Lib.hid hfull
        clear hfull
        have gp := put HS5.out.x (ka, kb) kv
        simp only [encK] at gp
        refine gp.mono ?_
        clear gp
        rintro e w6 ⟨rfl, F6, hx6, hu6, hf6⟩
        have HX6 := Lib.hid ((hu6.block bx (lt_of_heap HX5.out) NF.out).trans HX5.out)
        have HRM := Lib.hid (HS5.out.l.upd hu6 (fun x hx => (HS5.out.far x hx).2))
        have HFI6 := Lib.hid hx6
        have HB6 := Lib.hid (HB5.out.trans (hu6.below HB5.out.size (fun i hi h => by have := HS5.out.old i h; omega)))
        have HFO6 := Lib.hid (fun i (h : F6 i) => (Nat.lt_or_ge i W5.heap.size).elim (fun h2 => HS5.out.old i (hf6 i h2 h)) (fun h2 => Nat.le_trans HB5.out.size h2))
        have HFL6 := Lib.hid (fun i (h : F6 i) => hx6.1.lt h)
        clear hx6 hu6 hf6 c0 c1 c2 c3 d0 d1 d2 d3 y0 y1 y2 yf zx4 zx zy
        have d0 := cell_at HX6.out 0
        have d1 := cell_at HX6.out 1
        have d2 := cell_at HX6.out 2
        have d3 := cell_at HX6.out 3
        simp only [List.getElem?_toArray, List.getElem?_cons_zero, List.getElem?_cons_succ] at d0 d1 d2 d3
        have zx := lt_of_heap HX6.out
        have hlm : L.length ≤ 4096 := by omega
        obtain ⟨LL, hLL0⟩ : ∃ LL : List En3, LL = ((ka, kb), kv) :: L := ⟨_, rfl⟩
        have HLL0 := Lib.hid hLL0
        have hlen : 1 + L.length = LL.length := by rw [hLL0, List.length_cons]; omega
        have hfl : [.int .i64 ka, .int .i64 kb, .int .i64 kv] ++ fl L = fl LL := by rw [hLL0]; rfl
        have HLEN := Lib.hid hlen
        have HFL := Lib.hid hfl
        have HRl := Lib.hid (HRM.out.below ((Below.refl _ _).alloc (Nat.le_refl _) (.cells #[.int .i64 ka, .int .i64 kb, .int .i64 kv] 79)))
        clear hLL0 hlen hfl
        go_wp2_with (at_builtin; refine append_from rfl _ _ 74 rfl w6 ((Below.refl _ _).alloc (Nat.le_refl _) _) 79 i0 (.agg #[.int .i64 0, .int .i64 0, .int .i64 0]) 3 24 Try.underlying74 hi0 hz0 hz1 hz2 rfl (by decide) _ (1) _ rfl (own_one w6 _ _ _ _) _ L.length _ (fl L) rfl HRl.out.h0 (fl_len _) HRl.out.news (fl_one _) (by unfold maxLen; omega) (by omega) ?_; intro v1 w7 hown hb7; rw [HFL.out] at hown; obtain ⟨a7, c7, rfl, hr7, hf7⟩ := RRow.of_owns hown HLEN.out; have HR7 := Lib.hid hr7; have HF7 := Lib.hid hf7; have HB7 := Lib.hid hb7; have hge : n < LL.length := (by have := HLEN.out; have := HFU.out; omega); have hnc : n ≤ c7 := (by have := hr7.1; omega); clear hown hr7 hf7 hb7)
        obtain ⟨LT, hLT⟩ : ∃ LT, LT = LL.take n := ⟨_, rfl⟩
        have hm : LT.length = n := by rw [hLT, List.length_take]; omega
        have hS : St w7 c n w.heap.size LT F6 a7 c7 := by
          refine ⟨?_, ?_, fun x hx => ⟨Nat.le_trans HB6.out.size (HF7.out x hx), fun h => by have := HF7.out x hx; have := HFL6.out _ h; omega⟩, HFO6.out⟩
          · have h1 := HFI6.out.below HB7.out
            rw [acc_iv_no HNO.out, ← HLL0.out, ← hLT] at h1
            exact h1
          · have h1 := HR7.out
            rw [← List.take_append_drop n LL] at h1
            rw [hLT]
            exact h1.take
        have hB := chain HB6.out HB7.out
        clear hge hnc d0 d1 d2 d3 zx
        obtain ⟨LL', hLL'⟩ : ∃ LL' : List En3, LL' = LT := ⟨_, rfl⟩
        rw [← hLL'] at hS hm
        clear hLT hLL' LT
        have HM := Lib.hid hm
        clear hm
        have HST := Lib.hid hS
        have HBT := Lib.hid hB
        have hLL' : n ≤ n := by have := hS.len; rw [HM.out] at this; exact this
        clear hS hB
        refine (keysI HST.out.x hn4 HM.out).mono ?_
        rintro e w20 ⟨a1, cap1, rfl, hr1, hb20⟩
        have HS20 := Lib.hid (HST.out.below hb20)
        have HB20 := Lib.hid (chain HBT.out hb20)
        have HR20 := Lib.hid hr1
        clear hb20 hr1 
        go_wp2_with fail
        refine (lenI HS20.out.x HM.out).mono ?_
        rintro e w21 ⟨rfl, rfl⟩
        go_wp2_with fail
        obtain ⟨wo, hwo⟩ : ∃ wo : World, wo = w20 := ⟨_, rfl⟩
        rw [← hwo] at HS20 HB20 HR20 ⊢
        clear hwo
        go_loopg [15] (n) (fun g s15 wi => ∃ j : Nat, j ≤ n ∧ g = n - j ∧ s15 = .int .i64 j ∧ Below wo.heap.size wo wi)
        case atStart => exact ⟨0, Nat.zero_le _, by omega, rfl, Below.refl _ _⟩
        case round =>
          obtain ⟨j, hj, hg, rfl, hbi⟩ := hrel
          have HGI := Lib.hid hg
          have HBI := Lib.hid hbi
          clear hg hbi
          by_cases hjl : j < n
          · obtain ⟨q, he, hti, -⟩ := split_at (L := LL') (i := j) (by rw [HM.out]; exact hjl)
            have HRR := HS20.out.l.below HBI.out
            have hR1 := (HR20.out.below HBI.out)
            obtain ⟨b1, o1, rfl, hb1, hc1⟩ := hR1.at hjl
            have g0 := (hc1 j hjl).1
            have g1 := (hc1 j hjl).2
            rw [iv_getD LL' _ _ q he hti] at g0 g1
            rw [he] at HRR
            obtain ⟨b2, rfl, hb2, f0, f1, -⟩ := HRR.at
            rw [hti] at f0 f1
            have hi : (j : Int) < n := by omega
            obtain ⟨q0, hq0⟩ : ∃ z, z = q.1.1 := ⟨_, rfl⟩
            obtain ⟨q1, hq1⟩ : ∃ z, z = q.1.2 := ⟨_, rfl⟩
            simp only [← hq0] at g0 f0
            simp only [← hq1] at g1 f1
            clear he hti hc1 HRR hR1 hq0 hq1
            go_wp2
            refine region_calm (by kernel_rfl) (by kernel_rfl) ?_
            repeat (quiet_step ((fail)))
            refine wpQuiet_nil ?_
            rintro _ ⟨x, rfl⟩
            go_wp2
            go_roundg (gk - 1)
            case measure => have := HGI.out; omega
            case rel => exact ⟨j + 1, by omega, by have := HGI.out; omega, by go_num, Later.chain HBI.out x⟩
          · have hjm : j = n := by omega
            have hi : ¬ ((j : Int) < n) := by omega
            clear hjm
            go_wp2_with fail
            go_roundg (100 - (k + 1))
            case measure => have := HG.out; omega
            case rel => exact ⟨k + 1, LL', _, _, _, by omega, by omega, rfl, by rw [HM.out], by go_num, HS20.out.below HBI.out, chain HB20.out HBI.out⟩
      · skip
        have HFU := Lib.hid hfull
        clear hfull
        have gp := put HS5.out.x (ka, kb) kv
        simp only [encK] at gp
        refine gp.mono ?_
        clear gp
        rintro e w6 ⟨rfl, F6, hx6, hu6, hf6⟩
        have HX6 := Lib.hid ((hu6.block bx (lt_of_heap HX5.out) NF.out).trans HX5.out)
        have HRM := Lib.hid (HS5.out.l.upd hu6 (fun x hx => (HS5.out.far x hx).2))
        have HFI6 := Lib.hid hx6
        have HB6 := Lib.hid (HB5.out.trans (hu6.below HB5.out.size (fun i hi h => by have := HS5.out.old i h; omega)))
        have HFO6 := Lib.hid (fun i (h : F6 i) => (Nat.lt_or_ge i W5.heap.size).elim (fun h2 => HS5.out.old i (hf6 i h2 h)) (fun h2 => Nat.le_trans HB5.out.size h2))
        have HFL6 := Lib.hid (fun i (h : F6 i) => hx6.1.lt h)
        clear hx6 hu6 hf6 c0 c1 c2 c3 d0 d1 d2 d3 y0 y1 y2 yf zx4 zx zy
        have d0 := cell_at HX6.out 0
        have d1 := cell_at HX6.out 1
        have d2 := cell_at HX6.out 2
        have d3 := cell_at HX6.out 3
        simp only [List.getElem?_toArray, List.getElem?_cons_zero, List.getElem?_cons_succ] at d0 d1 d2 d3
        have zx := lt_of_heap HX6.out
        have hlm : L.length ≤ 4096 := by omega
        obtain ⟨LL, hLL0⟩ : ∃ LL : List En3, LL = ((ka, kb), kv) :: L := ⟨_, rfl⟩
        have HLL0 := Lib.hid hLL0
        have hlen : 1 + L.length = LL.length := by rw [hLL0, List.length_cons]; omega
        have hfl : [.int .i64 ka, .int .i64 kb, .int .i64 kv] ++ fl L = fl LL := by rw [hLL0]; rfl
        have HLEN := Lib.hid hlen
        have HFL := Lib.hid hfl
        have HRl := Lib.hid (HRM.out.below ((Below.refl _ _).alloc (Nat.le_refl _) (.cells #[.int .i64 ka, .int .i64 kb, .int .i64 kv] 79)))
        clear hLL0 hlen hfl
        go_wp2_with (at_builtin; refine append_from rfl _ _ 74 rfl w6 ((Below.refl _ _).alloc (Nat.le_refl _) _) 79 i0 (.agg #[.int .i64 0, .int .i64 0, .int .i64 0]) 3 24 Try.underlying74 hi0 hz0 hz1 hz2 rfl (by decide) _ (1) _ rfl (own_one w6 _ _ _ _) _ L.length _ (fl L) rfl HRl.out.h0 (fl_len _) HRl.out.news (fl_one _) (by unfold maxLen; omega) (by omega) ?_; intro v1 w7 hown hb7; rw [HFL.out] at hown; obtain ⟨a7, c7, rfl, hr7, hf7⟩ := RRow.of_owns hown HLEN.out; have HR7 := Lib.hid hr7; have HF7 := Lib.hid hf7; have HB7 := Lib.hid hb7; have hge : ¬ (n < LL.length) := (by have := HLEN.out; have := HFU.out; omega); clear hown hr7 hf7 hb7)
        obtain ⟨m, hm⟩ : ∃ m, LL.length = m := ⟨_, rfl⟩
        rw [hm]
        have HM := Lib.hid hm
        clear hm
        have hS : St w7 c n w.heap.size LL F6 a7 c7 := by
          refine ⟨?_, HR7.out, fun x hx => ⟨Nat.le_trans HB6.out.size (HF7.out x hx), fun h => by have := HF7.out x hx; have := HFL6.out _ h; omega⟩, HFO6.out⟩
          have h1 := HFI6.out.below HB7.out
          rw [acc_iv_no HNO.out, List.take_of_length_le (by rw [← HLL0.out]; omega), ← HLL0.out] at h1
          exact h1
        have hB := chain HB6.out HB7.out
        clear hge d0 d1 d2 d3 zx
        have HST := Lib.hid hS
        have HBT := Lib.hid hB
        have hLL : m ≤ n := by have := hS.len; rw [HM.out] at this; exact this
        clear hS hB
        refine (keysI HST.out.x hn4 HM.out).mono ?_
        rintro e w20 ⟨a1, cap1, rfl, hr1, hb20⟩
        have HS20 := Lib.hid (HST.out.below hb20)
        have HB20 := Lib.hid (chain HBT.out hb20)
        have HR20 := Lib.hid hr1
        clear hb20 hr1 
        go_wp2_with fail
        refine (lenI HS20.out.x HM.out).mono ?_
        rintro e w21 ⟨rfl, rfl⟩
        go_wp2_with fail
        obtain ⟨wo, hwo⟩ : ∃ wo : World, wo = w20 := ⟨_, rfl⟩
        rw [← hwo] at HS20 HB20 HR20 ⊢
        clear hwo
        go_loopg [15] (m) (fun g s15 wi => ∃ j : Nat, j ≤ m ∧ g = m - j ∧ s15 = .int .i64 j ∧ Below wo.heap.size wo wi)
        case atStart => exact ⟨0, Nat.zero_le _, by omega, rfl, Below.refl _ _⟩
        case round =>
          obtain ⟨j, hj, hg, rfl, hbi⟩ := hrel
          have HGI := Lib.hid hg
          have HBI := Lib.hid hbi
          clear hg hbi
          by_cases hjl : j < m
          · obtain ⟨q, he, hti, -⟩ := split_at (L := LL) (i := j) (by rw [HM.out]; exact hjl)
            have HRR := HS20.out.l.below HBI.out
            have hR1 := (HR20.out.below HBI.out)
            obtain ⟨b1, o1, rfl, hb1, hc1⟩ := hR1.at hjl
            have g0 := (hc1 j hjl).1
            have g1 := (hc1 j hjl).2
            rw [iv_getD LL _ _ q he hti] at g0 g1
            rw [he] at HRR
            obtain ⟨b2, rfl, hb2, f0, f1, -⟩ := HRR.at
            rw [hti] at f0 f1
            have hi : (j : Int) < m := by omega
            obtain ⟨q0, hq0⟩ : ∃ z, z = q.1.1 := ⟨_, rfl⟩
            obtain ⟨q1, hq1⟩ : ∃ z, z = q.1.2 := ⟨_, rfl⟩
            simp only [← hq0] at g0 f0
            simp only [← hq1] at g1 f1
            clear he hti hc1 HRR hR1 hq0 hq1
            go_wp2
            refine region_calm (by kernel_rfl) (by kernel_rfl) ?_
            repeat (quiet_step ((fail)))
            refine wpQuiet_nil ?_
            rintro _ ⟨x, rfl⟩
            go_wp2
            go_roundg (gk - 1)
            case measure => have := HGI.out; omega
            case rel => exact ⟨j + 1, by omega, by have := HGI.out; omega, by go_num, Later.chain HBI.out x⟩
          · have hjm : j = m := by omega
            have hi : ¬ ((j : Int) < m) := by omega
            clear hjm
            go_wp2_with fail
            go_roundg (100 - (k + 1))
            case measure => have := HG.out; omega
            case rel => exact ⟨k + 1, LL, _, _, _, by omega, by omega, rfl, by rw [HM.out], by go_num, HS20.out.below HBI.out, chain HB20.out HBI.out⟩
    · skip
      have hlL : A.length < L.length := by rw [hL, List.length_append, List.length_cons]; omega
      have hlB : L.length = A.length + 1 + B.length := by rw [hL, List.length_append, List.length_cons]; omega
      have hRR := HS5.out.l
      rw [hL] at hRR
      obtain ⟨b2, rfl, hb2, f0, f1, f2⟩ := hRR.at
      simp only at f2
      have hb2y : b2 ≠ by' := HFA.out _ rfl
      have HL := Lib.hid hL
      have HA := Lib.hid hA
      have hk0 : (0 : Int) ≤ A.length := by omega
      have hlI : (A.length : Int) < L.length := by omega
      have hlcl : L.length ≤ cl := HS5.out.l.1
      have hkc : (A.length : Int) ≤ cl := by omega
      have hkw : IntKind.i64.wrap ((A.length : Int) + 1) = A.length + 1 := i64w _ (by omega) (by omega)
      have hk1 : (0 : Int) ≤ A.length + 1 := by omega
      have hk2' : (A.length : Int) + 1 ≤ A.length + 1 + B.length := by omega
      obtain ⟨W6, hW6⟩ : ∃ W6, W5.setCell ⟨by', 2, none⟩ (.int .i64 v) = W6 := ⟨_, rfl⟩
      have HY6 := Lib.hid (by rw [← hW6, heap_set HY5.out]; rfl : W6.heap[by']? = some (.cells #[.int .i64 ka, .int .i64 kb, .int .i64 v] 79 (0, 0)))
      have HU6 := Lib.hid (by rw [← hW6]; exact Upd.setCell (S := fun i => i = by') (p := ⟨by', 2, none⟩) (Upd.refl _ W5) (fun _ => rfl) _ : Upd (fun i => i = by') W5 W6)
      have HX6 := Lib.hid ((HU6.out.block bx zx hxy).trans HX5.out)
      have HS6 := Lib.hid (⟨HS5.out.x.upd HU6.out (fun i _ h h' => NFY.out (h ▸ h')), HS5.out.l.upd HU6.out (fun x hx => HFA.out x hx), HS5.out.far, HS5.out.old⟩ : St W6 c n w.heap.size L F (some ⟨b2, 0, none⟩) cl)
      have HB6 := Lib.hid (HB5.out.trans (HU6.out.below HB5.out.size (fun i hi h => by have := HWB.out; omega)))
      have hra := HS6.out.l
      rw [hL] at hra
      have HRA := Lib.hid hra
      obtain ⟨MM, hMM⟩ : ∃ MM, MM = A ++ B := ⟨_, rfl⟩
      have HMM := Lib.hid hMM
      have hMl : MM.length + 1 = L.length := by rw [hMM, List.length_append]; omega
      have HMl := Lib.hid hMl
      have hfm : ([] ++ fl A) ++ fl B = fl MM := by rw [hMM, fl_app]; rfl
      have HFM := Lib.hid hfm
      clear hL hA hra hRR hMM hfm HFD
      cases pt
      case false =>
        go_wp2_with fail
        clear hW5 hby hW6 c0 c1 c2 c3 d0 d1 d2 d3 y0 y1 y2 yf f0 f1 f2 zx4 zx zy
        refine RG_begin 11 #[false, false, false, false, false, false, false, false, false, false, false] rfl rfl (by kernel_rfl) (fun R hR hacc => ?_)
        refine RG_take (i := 1) (v := ?v15x1) (some 74) #[false, true, false, false, false, false, false, false, false, false, false] rfl rfl (by kernel_rfl) (by kernel_rfl) (by kernel_rfl) rfl rfl (fun x => ?h15x1) ?n15x1
        case h15x1 => (go_simp; try with_reducible rfl)
        try simp only [Act.put, List.setIfInBounds_toArray, List.set_cons_zero, List.set_cons_succ]
        refine RG_take (i := 2) (v := ?v15x2) (some 75) #[false, true, true, false, false, false, false, false, false, false, false] rfl rfl (by kernel_rfl) (by kernel_rfl) (by kernel_rfl) rfl rfl (fun x => ?h15x2) ?n15x2
        case h15x2 => (go_simp; try with_reducible rfl)
        try simp only [Act.put, List.setIfInBounds_toArray, List.set_cons_zero, List.set_cons_succ]
        refine RG_take (i := 3) (v := ?v15x3) (some 76) #[false, true, true, true, false, false, false, false, false, false, false] rfl rfl (by kernel_rfl) (by kernel_rfl) (by kernel_rfl) rfl rfl (fun x => ?h15x3) ?n15x3
        case h15x3 => (go_simp; try with_reducible rfl)
        try simp only [Act.put, List.setIfInBounds_toArray, List.set_cons_zero, List.set_cons_succ]
        refine RG_take (i := 5) (v := ?v15x4) (some 78) #[false, true, true, true, false, true, false, false, false, false, false] rfl rfl (by kernel_rfl) (by kernel_rfl) (by kernel_rfl) rfl rfl (fun x => ?h15x4) ?n15x4
        case h15x4 => (go_simp; try with_reducible rfl)
        try simp only [Act.put, List.setIfInBounds_toArray, List.set_cons_zero, List.set_cons_succ]
        refine RG_take (i := 6) (v := ?v15x5) (some 79) #[false, true, true, true, false, true, true, false, false, false, false] rfl rfl (by kernel_rfl) (by kernel_rfl) (by kernel_rfl) rfl rfl (fun x => ?h15x5) ?n15x5
        case h15x5 => (go_simp; try with_reducible rfl)
        try simp only [Act.put, List.setIfInBounds_toArray, List.set_cons_zero, List.set_cons_succ]
        refine RG_take (i := 7) (v := ?v15x6) (some 80) #[false, true, true, true, false, true, true, true, false, false, false] rfl rfl (by kernel_rfl) (by kernel_rfl) (by kernel_rfl) rfl rfl (fun x => ?h15x6) ?n15x6
        case h15x6 => (go_simp; try with_reducible rfl)
        try simp only [Act.put, List.setIfInBounds_toArray, List.set_cons_zero, List.set_cons_succ]
        refine RG_take (i := 8) (v := ?v15x7) (some 81) #[false, true, true, true, false, true, true, true, true, false, false] rfl rfl (by kernel_rfl) (by kernel_rfl) (by kernel_rfl) rfl rfl (fun x => ?h15x7) ?n15x7
        case h15x7 => (go_simp; try with_reducible rfl)
        try simp only [Act.put, List.setIfInBounds_toArray, List.set_cons_zero, List.set_cons_succ]
        obtain ⟨src, hsrc⟩ : ∃ src, (if cl = A.length + 1 then some (⟨b2, 0, none⟩ : Addr) else some ⟨b2, (A.length + 1) * 3, none⟩) = src := ⟨_, rfl⟩
        rw [hsrc]
        have HSR := Lib.hid hsrc
        clear hsrc
        refine RG_one (i := 0) #[true, true, true, true, false, true, true, true, true, false, false] rfl (by kernel_rfl) rfl rfl (fun K hK => ?_)
        go_wp2_with fail
        refine RG_keep hK (hacc.alloc hacc.size _) (fun hacc => ?_)
        clear hK K
        try simp only [Act.put, List.setIfInBounds_toArray, List.set_cons_zero, List.set_cons_succ]
        refine RG_one (i := 4) #[true, true, true, true, true, true, true, true, true, false, false] rfl (by kernel_rfl) rfl rfl (fun K hK => ?_)
        refine wp_append_from _ _ 74 rfl W6 hacc 79 i0 (.agg #[.int .i64 0, .int .i64 0, .int .i64 0]) 3 24 Try.underlying74 hi0 hz0 hz1 hz2 rfl (by decide) _ (0) _ rfl (own_nil W6.drew _) _ A.length _ (fl A) rfl (fun h => by cases h) (by rw [fl_len]; try simp) ((HRA.out.below hacc).take.news) (fl_one _) (by unfold maxLen; omega) (by omega) ?_
        intro v1 w8 hown hacc8
        have HO8 := Lib.hid hown
        refine RG_keep hK hacc8 (fun hacc => ?_)
        clear hK K hacc8 hown
        try simp only [Act.put, List.setIfInBounds_toArray]
        refine RG_one (i := 9) #[true, true, true, true, true, true, true, true, true, true, false] rfl (by kernel_rfl) rfl rfl (fun K hK => ?_)
        refine wp_append_from _ _ 74 rfl W6 hacc 79 i0 (.agg #[.int .i64 0, .int .i64 0, .int .i64 0]) 3 24 Try.underlying74 hi0 hz0 hz1 hz2 rfl (by decide) _ (0 + A.length) _ rfl HO8.out _ B.length _ (fl B) rfl (fun h => by rw [← HSR.out] at h; split at h <;> cases h) (fl_len _) (by rw [← HSR.out]; exact (HRA.out.below hacc).rest) (fl_one _) (by unfold maxLen; omega) (by omega) ?_
        intro v2 w9 hown hacc9
        rw [HFM.out] at hown
        obtain ⟨a9, c9, rfl, hr9, hf9⟩ := RRow.of_owns hown (L := MM) (by rw [HMM.out, List.length_append]; omega)
        have HR9 := Lib.hid hr9
        have HF9 := Lib.hid hf9
        have HB9 := Lib.hid hacc9
        refine RG_keep hK hacc9 (fun hacc => ?_)
        clear hK K hacc9 hown hr9 hf9
        try simp only [Act.put]
        refine RG_take (i := 10) (v := ?v15x8) (some 7) #[true, true, true, true, true, true, true, true, true, true, true] rfl rfl (by kernel_rfl) (by kernel_rfl) (by kernel_rfl) rfl rfl (fun x => ?h15x8) ?n15x8
        case h15x8 => (go_simp; try with_reducible rfl)
        try simp only [Act.put]
        refine RG_done (by kernel_rfl) ?_
        refine hR _ _ ?_
        have HFI9 := Lib.hid (HS6.out.x.below HB9.out)
        have HX9 := Lib.hid ((HB9.out.block bx (lt_of_heap HX6.out)).trans HX6.out)
        have HY9 := Lib.hid ((HB9.out.block by' (lt_of_heap HY6.out)).trans HY6.out)
        have d0 := cell_at HX9.out 0
        have d1 := cell_at HX9.out 1
        have d2 := cell_at HX9.out 2
        have d3 := cell_at HX9.out 3
        simp only [List.getElem?_toArray, List.getElem?_cons_zero, List.getElem?_cons_succ] at d0 d1 d2 d3
        have zx := lt_of_heap HX9.out
        clear hkw hkc hk1 hk2' hlI
        go_wp2_with fail
        have h9 := HFI9.out
        rw [HL.out, iv_mid] at h9
        have gi := get_in h9
        simp only [encK] at gi
        refine gi.mono ?_
        clear gi h9
        rintro e w10 ⟨rfl, hx10, hu10⟩
        rw [← iv_cons, ← HMM.out] at hx10
        have HFI10 := Lib.hid hx10
        have HRM := Lib.hid (HR9.out.upd hu10 (fun x hx h => by have := HF9.out x hx; have := HS6.out.x.1.lt h; omega))
        have HY10 := Lib.hid ((hu10.block by' (lt_of_heap HY9.out) NFY.out).trans HY9.out)
        have HB10 := Lib.hid ((chain HB6.out HB9.out).trans (hu10.below (chain HB6.out HB9.out).size (fun i hi h => by have := HS6.out.old i h; omega)))
        have HZ10 := Lib.hid (fun x (hx : a9 = some x) => HF9.out x hx)
        have HLT10 := Lib.hid (fun i (h : F i) => HS6.out.x.1.lt h)
        have hw10 := hu10.size
        have hw9 := HB9.out.size
        clear hx10 hu10 d0 d1 d2 d3 zx
        have y0 := cell_at HY10.out 0
        have y1 := cell_at HY10.out 1
        have y2 := cell_at HY10.out 2
        simp only [List.getElem?_toArray, List.getElem?_cons_zero, List.getElem?_cons_succ] at y0 y1 y2
        have zy := lt_of_heap HY10.out
        have hlm : MM.length ≤ 4096 := by omega
        obtain ⟨LL, hLL0⟩ : ∃ LL : List En3, LL = ((ka, kb), v) :: MM := ⟨_, rfl⟩
        have HLL0 := Lib.hid hLL0
        have hlen : 1 + MM.length = LL.length := by rw [hLL0, List.length_cons]; omega
        have hfl : [.int .i64 ka, .int .i64 kb, .int .i64 v] ++ fl MM = fl LL := by rw [hLL0]; rfl
        have HLEN := Lib.hid hlen
        have HFL := Lib.hid hfl
        have HRl := Lib.hid (HRM.out.below ((Below.refl _ _).alloc (Nat.le_refl _) (.cells #[.int .i64 ka, .int .i64 kb, .int .i64 v] 79)))
        clear hLL0 hlen hfl
        go_wp2_with (at_builtin; refine append_from rfl _ _ 74 rfl w10 ((Below.refl _ _).alloc (Nat.le_refl _) _) 79 i0 (.agg #[.int .i64 0, .int .i64 0, .int .i64 0]) 3 24 Try.underlying74 hi0 hz0 hz1 hz2 rfl (by decide) _ (1) _ rfl (own_one w10 _ _ _ _) _ MM.length _ (fl MM) rfl HRl.out.h0 (fl_len _) HRl.out.news (fl_one _) (by unfold maxLen; omega) (by omega) ?_; intro v1 w7 hown hb7; rw [HFL.out] at hown; obtain ⟨a7, c7, rfl, hr7, hf7⟩ := RRow.of_owns hown HLEN.out; have HR7 := Lib.hid hr7; have HF7 := Lib.hid hf7; have HB7 := Lib.hid hb7; clear hown hr7 hf7 hb7)
        obtain ⟨m, hm⟩ : ∃ m, LL.length = m := ⟨_, rfl⟩
        rw [hm]
        have HM := Lib.hid hm
        clear hm
        have hS : St w7 c n w.heap.size LL F a7 c7 := by
          refine ⟨?_, HR7.out, fun x hx => ⟨Nat.le_trans HB10.out.size (HF7.out x hx), fun h => by have := HF7.out x hx; have := HLT10.out _ h; omega⟩, HS6.out.old⟩
          have h1 := HFI10.out.below HB7.out
          rw [← HLL0.out] at h1
          exact h1
        have hB := chain HB10.out HB7.out
        clear y0 y1 y2 zy
        have HST := Lib.hid hS
        have HBT := Lib.hid hB
        have hLL : m ≤ n := by have := hS.len; rw [HM.out] at this; exact this
        clear hS hB
        refine (keysI HST.out.x hn4 HM.out).mono ?_
        rintro e w20 ⟨a1, cap1, rfl, hr1, hb20⟩
        have HS20 := Lib.hid (HST.out.below hb20)
        have HB20 := Lib.hid (chain HBT.out hb20)
        have HR20 := Lib.hid hr1
        clear hb20 hr1 
        go_wp2_with fail
        refine (lenI HS20.out.x HM.out).mono ?_
        rintro e w21 ⟨rfl, rfl⟩
        go_wp2_with fail
        obtain ⟨wo, hwo⟩ : ∃ wo : World, wo = w20 := ⟨_, rfl⟩
        rw [← hwo] at HS20 HB20 HR20 ⊢
        clear hwo
        go_loopg [15] (m) (fun g s15 wi => ∃ j : Nat, j ≤ m ∧ g = m - j ∧ s15 = .int .i64 j ∧ Below wo.heap.size wo wi)
        case atStart => exact ⟨0, Nat.zero_le _, by omega, rfl, Below.refl _ _⟩
        case round =>
          obtain ⟨j, hj, hg, rfl, hbi⟩ := hrel
          have HGI := Lib.hid hg
          have HBI := Lib.hid hbi
          clear hg hbi
          by_cases hjl : j < m
          · obtain ⟨q, he, hti, -⟩ := split_at (L := LL) (i := j) (by rw [HM.out]; exact hjl)
            have HRR := HS20.out.l.below HBI.out
            have hR1 := (HR20.out.below HBI.out)
            obtain ⟨b1, o1, rfl, hb1, hc1⟩ := hR1.at hjl
            have g0 := (hc1 j hjl).1
            have g1 := (hc1 j hjl).2
            rw [iv_getD LL _ _ q he hti] at g0 g1
            rw [he] at HRR
            obtain ⟨b2, rfl, hb2, f0, f1, -⟩ := HRR.at
            rw [hti] at f0 f1
            have hi : (j : Int) < m := by omega
            obtain ⟨q0, hq0⟩ : ∃ z, z = q.1.1 := ⟨_, rfl⟩
            obtain ⟨q1, hq1⟩ : ∃ z, z = q.1.2 := ⟨_, rfl⟩
            simp only [← hq0] at g0 f0
            simp only [← hq1] at g1 f1
            clear he hti hc1 HRR hR1 hq0 hq1
            go_wp2
            refine region_calm (by kernel_rfl) (by kernel_rfl) ?_
            repeat (quiet_step ((fail)))
            refine wpQuiet_nil ?_
            rintro _ ⟨x, rfl⟩
            go_wp2
            go_roundg (gk - 1)
            case measure => have := HGI.out; omega
            case rel => exact ⟨j + 1, by omega, by have := HGI.out; omega, by go_num, Later.chain HBI.out x⟩
          · have hjm : j = m := by omega
            have hi : ¬ ((j : Int) < m) := by omega
            clear hjm
            go_wp2_with fail
            go_roundg (100 - (k + 1))
            case measure => have := HG.out; omega
            case rel => exact ⟨k + 1, LL, _, _, _, by omega, by omega, rfl, by rw [HM.out], by go_num, HS20.out.below HBI.out, chain HB20.out HBI.out⟩
      case true =>
        go_wp2_with fail
        clear hW5 hby hW6 c0 c1 c2 c3 d0 d1 d2 d3 y0 y1 y2 yf f0 f1 f2 zx4 zx zy
        refine RG_begin 11 #[false, false, false, false, false, false, false, false, false, false, false] rfl rfl (by kernel_rfl) (fun R hR hacc => ?_)
        refine RG_take (i := 1) (v := ?v15xb1) (some 74) #[false, true, false, false, false, false, false, false, false, false, false] rfl rfl (by kernel_rfl) (by kernel_rfl) (by kernel_rfl) rfl rfl (fun x => ?h15xb1) ?n15xb1
        case h15xb1 => (go_simp; try with_reducible rfl)
        try simp only [Act.put, List.setIfInBounds_toArray, List.set_cons_zero, List.set_cons_succ]
        refine RG_take (i := 2) (v := ?v15xb2) (some 75) #[false, true, true, false, false, false, false, false, false, false, false] rfl rfl (by kernel_rfl) (by kernel_rfl) (by kernel_rfl) rfl rfl (fun x => ?h15xb2) ?n15xb2
        case h15xb2 => (go_simp; try with_reducible rfl)
        try simp only [Act.put, List.setIfInBounds_toArray, List.set_cons_zero, List.set_cons_succ]
        refine RG_take (i := 3) (v := ?v15xb3) (some 76) #[false, true, true, true, false, false, false, false, false, false, false] rfl rfl (by kernel_rfl) (by kernel_rfl) (by kernel_rfl) rfl rfl (fun x => ?h15xb3) ?n15xb3
        case h15xb3 => (go_simp; try with_reducible rfl)
        try simp only [Act.put, List.setIfInBounds_toArray, List.set_cons_zero, List.set_cons_succ]
        refine RG_take (i := 5) (v := ?v15xb4) (some 78) #[false, true, true, true, false, true, false, false, false, false, false] rfl rfl (by kernel_rfl) (by kernel_rfl) (by kernel_rfl) rfl rfl (fun x => ?h15xb4) ?n15xb4
        case h15xb4 => (go_simp; try with_reducible rfl)
        try simp only [Act.put, List.setIfInBounds_toArray, List.set_cons_zero, List.set_cons_succ]
        refine RG_take (i := 6) (v := ?v15xb5) (some 79) #[false, true, true, true, false, true, true, false, false, false, false] rfl rfl (by kernel_rfl) (by kernel_rfl) (by kernel_rfl) rfl rfl (fun x => ?h15xb5) ?n15xb5
        case h15xb5 => (go_simp; try with_reducible rfl)
        try simp only [Act.put, List.setIfInBounds_toArray, List.set_cons_zero, List.set_cons_succ]
        refine RG_take (i := 7) (v := ?v15xb6) (some 80) #[false, true, true, true, false, true, true, true, false, false, false] rfl rfl (by kernel_rfl) (by kernel_rfl) (by kernel_rfl) rfl rfl (fun x => ?h15xb6) ?n15xb6
        case h15xb6 => (go_simp; try with_reducible rfl)
        try simp only [Act.put, List.setIfInBounds_toArray, List.set_cons_zero, List.set_cons_succ]
        refine RG_take (i := 8) (v := ?v15xb7) (some 81) #[false, true, true, true, false, true, true, true, true, false, false] rfl rfl (by kernel_rfl) (by kernel_rfl) (by kernel_rfl) rfl rfl (fun x => ?h15xb7) ?n15xb7
        case h15xb7 => (go_simp; try with_reducible rfl)
        try simp only [Act.put, List.setIfInBounds_toArray, List.set_cons_zero, List.set_cons_succ]
        obtain ⟨src, hsrc⟩ : ∃ src, (if cl = A.length + 1 then some (⟨b2, 0, none⟩ : Addr) else some ⟨b2, (A.length + 1) * 3, none⟩) = src := ⟨_, rfl⟩
        rw [hsrc]
        have HSR := Lib.hid hsrc
        clear hsrc
        refine RG_one (i := 0) #[true, true, true, true, false, true, true, true, true, false, false] rfl (by kernel_rfl) rfl rfl (fun K hK => ?_)
        go_wp2_with fail
        refine RG_keep hK (hacc.alloc hacc.size _) (fun hacc => ?_)
        clear hK K
        try simp only [Act.put, List.setIfInBounds_toArray, List.set_cons_zero, List.set_cons_succ]
        refine RG_one (i := 4) #[true, true, true, true, true, true, true, true, true, false, false] rfl (by kernel_rfl) rfl rfl (fun K hK => ?_)
        refine wp_append_from _ _ 74 rfl W6 hacc 79 i0 (.agg #[.int .i64 0, .int .i64 0, .int .i64 0]) 3 24 Try.underlying74 hi0 hz0 hz1 hz2 rfl (by decide) _ (0) _ rfl (own_nil W6.drew _) _ A.length _ (fl A) rfl (fun h => by cases h) (by rw [fl_len]; try simp) ((HRA.out.below hacc).take.news) (fl_one _) (by unfold maxLen; omega) (by omega) ?_
        intro v1 w8 hown hacc8
        have HO8 := Lib.hid hown
        refine RG_keep hK hacc8 (fun hacc => ?_)
        clear hK K hacc8 hown
        try simp only [Act.put, List.setIfInBounds_toArray]
        refine RG_one (i := 9) #[true, true, true, true, true, true, true, true, true, true, false] rfl (by kernel_rfl) rfl rfl (fun K hK => ?_)
        refine wp_append_from _ _ 74 rfl W6 hacc 79 i0 (.agg #[.int .i64 0, .int .i64 0, .int .i64 0]) 3 24 Try.underlying74 hi0 hz0 hz1 hz2 rfl (by decide) _ (0 + A.length) _ rfl HO8.out _ B.length _ (fl B) rfl (fun h => by rw [← HSR.out] at h; split at h <;> cases h) (fl_len _) (by rw [← HSR.out]; exact (HRA.out.below hacc).rest) (fl_one _) (by unfold maxLen; omega) (by omega) ?_
        intro v2 w9 hown hacc9
        rw [HFM.out] at hown
        obtain ⟨a9, c9, rfl, hr9, hf9⟩ := RRow.of_owns hown (L := MM) (by rw [HMM.out, List.length_append]; omega)
        have HR9 := Lib.hid hr9
        have HF9 := Lib.hid hf9
        have HB9 := Lib.hid hacc9
        refine RG_keep hK hacc9 (fun hacc => ?_)
        clear hK K hacc9 hown hr9 hf9
        try simp only [Act.put]
        refine RG_take (i := 10) (v := ?v15xb8) (some 7) #[true, true, true, true, true, true, true, true, true, true, true] rfl rfl (by kernel_rfl) (by kernel_rfl) (by kernel_rfl) rfl rfl (fun x => ?h15xb8) ?n15xb8
        case h15xb8 => (go_simp; try with_reducible rfl)
        try simp only [Act.put]
        refine RG_done (by kernel_rfl) ?_
        refine hR _ _ ?_
        have HFI9 := Lib.hid (HS6.out.x.below HB9.out)
        have HX9 := Lib.hid ((HB9.out.block bx (lt_of_heap HX6.out)).trans HX6.out)
        have d0 := cell_at HX9.out 0
        have d1 := cell_at HX9.out 1
        have d2 := cell_at HX9.out 2
        have d3 := cell_at HX9.out 3
        simp only [List.getElem?_toArray, List.getElem?_cons_zero, List.getElem?_cons_succ] at d0 d1 d2 d3
        have zx := lt_of_heap HX9.out
        clear hkw hkc hk1 hk2' hlI
        go_wp2_with fail
        have gp := put HFI9.out (ka, kb) kv
        simp only [encK] at gp
        refine gp.mono ?_
        clear gp
        rintro e w10 ⟨rfl, F10, hx10, hu10, hf10⟩
        have h10 := hx10
        rw [HL.out, acc_iv_yes (by rw [← HL.out]; exact HFI9.out.1.nodup) (by rw [← HL.out]; exact HS6.out.len), ← HMM.out] at h10
        have HFI10 := Lib.hid h10
        have HRM := Lib.hid (HR9.out.upd hu10 (fun x hx h => by have := HF9.out x hx; have := HS6.out.x.1.lt h; omega))
        have HX10 := Lib.hid ((hu10.block bx (lt_of_heap HX9.out) NF.out).trans HX9.out)
        have HB10 := Lib.hid ((chain HB6.out HB9.out).trans (hu10.below (chain HB6.out HB9.out).size (fun i hi h => by have := HS6.out.old i h; omega)))
        have HLT10 := Lib.hid (fun i (h : F10 i) => h10.1.lt h)
        have HFO10 := Lib.hid (fun i (h : F10 i) => (Nat.lt_or_ge i w9.heap.size).elim (fun h2 => HS6.out.old i (hf10 i h2 h)) (fun h2 => Nat.le_trans (chain HB6.out HB9.out).size h2))
        have hw10 := hu10.size
        have hw9 := HB9.out.size
        clear hx10 h10 hu10 hf10 d0 d1 d2 d3 zx
        have d0 := cell_at HX10.out 0
        have d1 := cell_at HX10.out 1
        have d2 := cell_at HX10.out 2
        have d3 := cell_at HX10.out 3
        simp only [List.getElem?_toArray, List.getElem?_cons_zero, List.getElem?_cons_succ] at d0 d1 d2 d3
        have zx := lt_of_heap HX10.out
        have hlm : MM.length ≤ 4096 := by omega
        obtain ⟨LL, hLL0⟩ : ∃ LL : List En3, LL = ((ka, kb), kv) :: MM := ⟨_, rfl⟩
        have HLL0 := Lib.hid hLL0
        have hlen : 1 + MM.length = LL.length := by rw [hLL0, List.length_cons]; omega
        have hfl : [.int .i64 ka, .int .i64 kb, .int .i64 kv] ++ fl MM = fl LL := by rw [hLL0]; rfl
        have HLEN := Lib.hid hlen
        have HFL := Lib.hid hfl
        have HRl := Lib.hid (HRM.out.below ((Below.refl _ _).alloc (Nat.le_refl _) (.cells #[.int .i64 ka, .int .i64 kb, .int .i64 kv] 79)))
        clear hLL0 hlen hfl
        go_wp2_with (at_builtin; refine append_from rfl _ _ 74 rfl w10 ((Below.refl _ _).alloc (Nat.le_refl _) _) 79 i0 (.agg #[.int .i64 0, .int .i64 0, .int .i64 0]) 3 24 Try.underlying74 hi0 hz0 hz1 hz2 rfl (by decide) _ (1) _ rfl (own_one w10 _ _ _ _) _ MM.length _ (fl MM) rfl HRl.out.h0 (fl_len _) HRl.out.news (fl_one _) (by unfold maxLen; omega) (by omega) ?_; intro v1 w7 hown hb7; rw [HFL.out] at hown; obtain ⟨a7, c7, rfl, hr7, hf7⟩ := RRow.of_owns hown HLEN.out; have HR7 := Lib.hid hr7; have HF7 := Lib.hid hf7; have HB7 := Lib.hid hb7; have hge : ¬ (n < LL.length) := (by have := HLEN.out; have := HMl.out; omega); clear hown hr7 hf7 hb7)
        obtain ⟨m, hm⟩ : ∃ m, LL.length = m := ⟨_, rfl⟩
        rw [hm]
        have HM := Lib.hid hm
        clear hm
        have hS : St w7 c n w.heap.size LL F10 a7 c7 := by
          refine ⟨?_, HR7.out, fun x hx => ⟨Nat.le_trans HB10.out.size (HF7.out x hx), fun h => by have := HF7.out x hx; have := HLT10.out _ h; omega⟩, HFO10.out⟩
          have h1 := HFI10.out.below HB7.out
          rw [← HLL0.out] at h1
          exact h1
        have hB := chain HB10.out HB7.out
        clear hge d0 d1 d2 d3 zx
        have HST := Lib.hid hS
        have HBT := Lib.hid hB
        have hLL : m ≤ n := by have := hS.len; rw [HM.out] at this; exact this
        clear hS hB
        refine (keysI HST.out.x hn4 HM.out).mono ?_
        rintro e w20 ⟨a1, cap1, rfl, hr1, hb20⟩
        have HS20 := Lib.hid (HST.out.below hb20)
        have HB20 := Lib.hid (chain HBT.out hb20)
        have HR20 := Lib.hid hr1
        clear hb20 hr1 
        go_wp2_with fail
        refine (lenI HS20.out.x HM.out).mono ?_
        rintro e w21 ⟨rfl, rfl⟩
        go_wp2_with fail
        obtain ⟨wo, hwo⟩ : ∃ wo : World, wo = w20 := ⟨_, rfl⟩
        rw [← hwo] at HS20 HB20 HR20 ⊢
        clear hwo
        go_loopg [15] (m) (fun g s15 wi => ∃ j : Nat, j ≤ m ∧ g = m - j ∧ s15 = .int .i64 j ∧ Below wo.heap.size wo wi)
        case atStart => exact ⟨0, Nat.zero_le _, by omega, rfl, Below.refl _ _⟩
        case round =>
          obtain ⟨j, hj, hg, rfl, hbi⟩ := hrel
          have HGI := Lib.hid hg
          have HBI := Lib.hid hbi
          clear hg hbi
          by_cases hjl : j < m
          · obtain ⟨q, he, hti, -⟩ := split_at (L := LL) (i := j) (by rw [HM.out]; exact hjl)
            have HRR := HS20.out.l.below HBI.out
            have hR1 := (HR20.out.below HBI.out)
            obtain ⟨b1, o1, rfl, hb1, hc1⟩ := hR1.at hjl
            have g0 := (hc1 j hjl).1
            have g1 := (hc1 j hjl).2
            rw [iv_getD LL _ _ q he hti] at g0 g1
            rw [he] at HRR
            obtain ⟨b2, rfl, hb2, f0, f1, -⟩ := HRR.at
            rw [hti] at f0 f1
            have hi : (j : Int) < m := by omega
            obtain ⟨q0, hq0⟩ : ∃ z, z = q.1.1 := ⟨_, rfl⟩
            obtain ⟨q1, hq1⟩ : ∃ z, z = q.1.2 := ⟨_, rfl⟩
            simp only [← hq0] at g0 f0
            simp only [← hq1] at g1 f1
            clear he hti hc1 HRR hR1 hq0 hq1
            go_wp2
            refine region_calm (by kernel_rfl) (by kernel_rfl) ?_
            repeat (quiet_step ((fail)))
            refine wpQuiet_nil ?_
            rintro _ ⟨x, rfl⟩
            go_wp2
            go_roundg (gk - 1)
            case measure => have := HGI.out; omega
            case rel => exact ⟨j + 1, by omega, by have := HGI.out; omega, by go_num, Later.chain HBI.out x⟩
          · have hjm : j = m := by omega
            have hi : ¬ ((j : Int) < m) := by omega
            clear hjm
            go_wp2_with fail
            go_roundg (100 - (k + 1))
            case measure => have := HG.out; omega
            case rel => exact ⟨k + 1, LL, _, _, _, by omega, by omega, rfl, by rw [HM.out], by go_num, HS20.out.below HBI.out, chain HB20.out HBI.out⟩
end Go.Proofs.Ytgddlcbaieclcaa.lruPlays
