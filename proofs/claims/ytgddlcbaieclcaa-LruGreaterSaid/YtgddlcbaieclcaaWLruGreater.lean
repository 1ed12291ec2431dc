/-
  The walk of the law LruGreater.
-/
import Derived.Test.YtgddlcbaieclcaaLruAcc
import Derived.Test.YtgddlcbaieclcaaLruOpen
import Derived.Test.YtgddlcbaieclcaaLruKnown
import Derived.Test.YtgddlcbaieclcaaWithin
namespace Go.Proofs.Ytgddlcbaieclcaa.lruGreater
open Go Go.RowKit Go.Proofs.Ytgddlcbaieclcaa.Kit Go.Proofs.Ytgddlcbaieclcaa.LruK Go.Proofs.Ytgddlcbaieclcaa.LrugetK Go.Proofs.Ytgddlcbaieclcaa.LruabsK Go.Proofs.Ytgddlcbaieclcaa.LruAcc Go.Proofs.Ytgddlcbaieclcaa.LruOpen
attribute [local irreducible] wpQuiet

/-- All that is kept is a key's first number. -/
def Own (L : List (Ky × Value)) : Prop := ∀ e ∈ L, e.2 = .int .i64 e.1.1

theorem own_acc {c : Nat} {L : List (Ky × Value)} {k : Ky} (h : Own L) : Own (acc c L k (.int .i64 k.1)) := by
  intro e he
  have := List.mem_of_mem_take he
  rcases List.mem_cons.1 this with rfl | h2
  · rfl
  · exact h e (List.mem_filter.1 h2).1
theorem own_front {A B : List (Ky × Value)} {k : Ky} {v : Value} (h : Own (A ++ (k, v) :: B)) : Own ((k, v) :: (A ++ B)) := by
  intro e he
  refine h e ?_
  simp only [List.mem_cons, List.mem_append] at he ⊢
  rcases he with h | h | h <;> simp [h]

/-- The lesser and the greater. -/
structure Two (w : World) (c d : Nat) (n m : Nat) (K L : List (Ky × Value)) (F G : Nat → Prop) : Prop where
  x : Fine w c n K F
  y : Fine w d (n + m) L G
  first : K = L.take n
  own : Own L
  apart : ∀ i, F i → ¬ G i

theorem Two.below {w w' : World} {c d n m : Nat} {K L : List (Ky × Value)} {F G : Nat → Prop} (h : Two w c d n m K L F G) (hb : Below w.heap.size w w') : Two w' c d n m K L F G := ⟨h.x.below hb, h.y.below hb, h.first, h.own, h.apart⟩

set_option maxHeartbeats 4000000 in
set_option maxRecDepth 100000 in
theorem walk (n0 n1 : Int) (a : Option Addr) (len cap : Nat) (f : Nat → Play) (w : World) (b0 : -9223372036854775808 ≤ n0 ∧ n0 ≤ 9223372036854775807) (b1 : -9223372036854775808 ≤ n1 ∧ n1 ≤ 9223372036854775807) (hr : Row w a len f) (hl : len ≤ 35184372088832) :
    Calls Try.prog 11 #[.int .i64 n0, .int .i64 n1, .slice a len cap] w fun x w' => x = .returned (.bool true) ∧ Below w.heap.size w w' := by
  have HR := Lib.hid hr
  clear hr
  obtain ⟨n, hn⟩ : ∃ n, n = 0 + n0 % (20 - 0 + 1) := ⟨_, rfl⟩
  obtain ⟨m, hm⟩ : ∃ m, m = 0 + n1 % (20 - 0 + 1) := ⟨_, rfl⟩
  have hn1 : 0 ≤ n := by omega
  have hn2 : n ≤ 20 := by omega
  have hm1 : 0 ≤ m := by omega
  have hm2 : m ≤ 20 := by omega
  have k0 := fun w => Within.Within_calls n0 0 20 w (by decide) (by decide) (by decide) b0.1 b0.2
  have k1 := fun w => Within.Within_calls n1 0 20 w (by decide) (by decide) (by decide) b1.1 b1.2
  rw [← hn] at k0
  rw [← hm] at k1
  have K0 := Lib.hid k0
  have K1 := Lib.hid k1
  clear k0 k1 hn hm b0 b1
  go_enter Try.func11, Try.ntmps11
  go_wp2_with fail
  refine (K0.out w).mono ?_
  rintro e w' ⟨rfl, rfl⟩
  go_wp2_with fail
  refine (K1.out w).mono ?_
  rintro e w' ⟨rfl, rfl⟩
  go_wp2_with fail
  refine (new n w hn1 (by omega)).mono ?_
  rintro e w1 ⟨c, F1, rfl, h1, hf1, hb1⟩
  have H1 := Lib.hid h1
  have HF1 := Lib.hid hf1
  have HB1 := Lib.hid hb1
  clear h1 hf1 hb1
  go_wp2_with fail
  refine (new (n + m) w1 (by omega) (by omega)).mono ?_
  rintro e w2 ⟨d, F2, rfl, h2, hf2, hb2⟩
  have HT := Lib.hid (⟨⟨H1.out.below hb2, Nat.zero_le _⟩, ⟨by rw [← Int.toNat_add hn1 hm1]; exact h2, Nat.zero_le _⟩, by simp, (fun e he => by cases he), fun i hi hi2 => by have := H1.out.lt hi; have := hf2 i hi2; omega⟩ : Two w2 c d n.toNat m.toNat [] [] F1 F2)
  have HFG := Lib.hid (fun i (h : F1 i ∨ F2 i) => h.elim (HF1.out i) (fun h => Nat.le_trans HB1.out.size (hf2 i h)))
  have HB2 := Lib.hid (chain HB1.out hb2)
  clear h2 hf2 hb2
  go_wp2_with fail
  go_loopg [11] 100 (fun g s11 wr => ∃ (k : Nat) (K L : List (Ky × Value)) (F G : Nat → Prop), k ≤ len ∧ k ≤ 100 ∧ g = 100 - k ∧ s11 = .int .i64 k ∧ Two wr c d n.toNat m.toNat K L F G ∧ (∀ i, F i ∨ G i → w.heap.size ≤ i) ∧ Below w.heap.size w wr)
  case atStart => exact ⟨0, [], [], F1, F2, by omega, by omega, by omega, rfl, HT.out, HFG.out, HB2.out⟩
  case round =>
    obtain ⟨k, K, L, F, G, hk, hk2, hg, rfl, hT, hFG, hbw⟩ := hrel
    have HG := Lib.hid hg
    have HT := Lib.hid hT
    have HFGr := Lib.hid hFG
    have HBW := Lib.hid hbw
    clear hg hT hFG hbw
    by_cases hlt : k < len
    · by_cases hlt2 : k < 100
      · obtain ⟨b, off, rfl, hbl, hc⟩ := HR.out.at hlt
        have e1 := (HBW.out.cell (p := ⟨b, off + k * 4 + 1, none⟩) hbl).trans (hc k hlt).2.1
        have e2 := (HBW.out.cell (p := ⟨b, off + k * 4 + 2, none⟩) hbl).trans (hc k hlt).2.2.1
        have hi : (k : Int) < len := by omega
        have hi2 : (k : Int) < 100 := by omega
        have hbl2 : b < wr.heap.size := Nat.lt_of_lt_of_le hbl HBW.out.size
        obtain ⟨ka, hka⟩ : ∃ x, x = (f k).a := ⟨_, rfl⟩
        obtain ⟨kb, hkb⟩ : ∃ x, x = (f k).b := ⟨_, rfl⟩
        rw [← hka] at e1
        rw [← hkb] at e2
        clear hc hka hkb
        obtain ⟨W3, hW3⟩ : ∃ W3, wr.alloc (.cells #[.int .i64 ka, .int .i64 kb] 73) = W3 := ⟨_, rfl⟩
        have hb3 : Below wr.heap.size wr W3 := by rw [← hW3]; exact (Below.refl _ _).alloc (Nat.le_refl _) _
        have hx3 : W3.heap[wr.heap.size]? = some (.cells #[.int .i64 ka, .int .i64 kb] 73 (0, 0)) := by rw [← hW3]; exact alloc_new rfl
        obtain ⟨bx, hbx⟩ : ∃ bx, wr.heap.size = bx := ⟨_, rfl⟩
        have HX3 := Lib.hid (hbx ▸ hx3 : W3.heap[bx]? = some (.cells #[.int .i64 ka, .int .i64 kb] 73 (0, 0)))
        have nF : ¬ F bx := fun h => by have := HT.out.x.1.lt h; omega
        have nG : ¬ G bx := fun h => by have := HT.out.y.1.lt h; omega
        have NF := Lib.hid nF
        have NG := Lib.hid nG
        have HX := Lib.hid (HT.out.x.below hb3)
        have HY := Lib.hid (HT.out.y.below hb3)
        have HB3 := Lib.hid (chain HBW.out hb3)
        have HLF := Lib.hid (fun i (h : F i) => (HT.out.x.below hb3).1.lt h)
        have HLG := Lib.hid (fun i (h : G i) => (HT.out.y.below hb3).1.lt h)
        have c0 := cell_at HX3.out 0
        have c1 := cell_at HX3.out 1
        simp only [List.getElem?_toArray, List.getElem?_cons_zero, List.getElem?_cons_succ] at c0 c1
        have zx := lt_of_heap HX3.out
        clear hb3 hx3 nF nG
        go_wp2_with fail
        clear hW3 hbx e1 e2 hbl2 c0 c1 zx hi hi2
        by_cases hk1 : (ka, kb) ∈ K.map (·.1)
        · obtain ⟨A, v, B, hA⟩ := mem_mid hk1
          have hL : L = A ++ ((ka, kb), v) :: (B ++ L.drop n.toNat) := by
            have h1 := HT.out.first
            rw [hA] at h1
            have h2 := (List.take_append_drop n.toNat L).symm
            rw [← h1] at h2
            simpa using h2
          have hv : v = .int .i64 ka := HT.out.own ((ka, kb), v) (by rw [hL]; simp)
          subst hv
          have HA := Lib.hid hA
          have HL := Lib.hid hL
          clear hA hL hk1
          have gi := get_in (A := A) (B := B) (k := (ka, kb)) (v := .int .i64 ka) (by rw [← HA.out]; exact HX.out)
          simp only [encK] at gi
          refine gi.mono ?_
          clear gi
          rintro e w4 ⟨rfl, hx4, hu4⟩
          have HX4 := Lib.hid hx4
          have HY4 := Lib.hid (HY.out.upd hu4 (fun i _ h => HT.out.apart i h))
          have HU4 := Lib.hid hu4
          have HK4 := Lib.hid ((hu4.block bx (lt_of_heap HX3.out) NF.out).trans HX3.out)
          have c0 := cell_at HK4.out 0
          have c1 := cell_at HK4.out 1
          simp only [List.getElem?_toArray, List.getElem?_cons_zero, List.getElem?_cons_succ] at c0 c1
          have zx := lt_of_heap HK4.out
          clear hx4 hu4
          go_wp2_with fail
          have gi := get_in (A := A) (B := B ++ L.drop n.toNat) (k := (ka, kb)) (v := .int .i64 ka) (by rw [← HL.out]; exact HY4.out)
          simp only [encK] at gi
          refine gi.mono ?_
          clear gi
          rintro e w5 ⟨rfl, hy5, hu5⟩
          have HY5 := Lib.hid hy5
          have HX5 := Lib.hid (HX4.out.upd hu5 (fun i _ h h' => HT.out.apart i h' h))
          have HU5 := Lib.hid hu5
          have HK5 := Lib.hid ((hu5.block bx (lt_of_heap HK4.out) NG.out).trans HK4.out)
          clear c0 c1 zx
          have c0 := cell_at HK5.out 0
          have c1 := cell_at HK5.out 1
          simp only [List.getElem?_toArray, List.getElem?_cons_zero, List.getElem?_cons_succ] at c0 c1
          have zx := lt_of_heap HK5.out
          clear hy5 hu5
          have hT : Two w5 c d n.toNat m.toNat (acc n.toNat K (ka, kb) (.int .i64 ka)) (acc (n.toNat + m.toNat) L (ka, kb) (.int .i64 ka)) F G := by
            refine ⟨?_, ?_, ?_, own_acc HT.out.own, HT.out.apart⟩
            · have h1 := HX.out
              rw [HA.out] at h1 ⊢
              rw [acc_yes h1.1.nodup h1.2]
              exact HX5.out
            · have h1 := HY.out
              rw [HL.out] at h1 ⊢
              rw [acc_yes h1.1.nodup h1.2]
              exact HY5.out
            · rw [acc_take HT.out.y.1.nodup, ← HT.out.first]
          have HBT := Lib.hid ((HB3.out.trans (HU4.out.below HB3.out.size (fun i hi h => by have := HFGr.out i (.inl h); omega))).trans (HU5.out.below (Nat.le_trans HB3.out.size HU4.out.size) (fun i hi h => by have := HFGr.out i (.inr h); omega)))
          have HFN := Lib.hid HFGr.out
          generalize acc n.toNat K (ka, kb) (.int .i64 ka) = KK at hT
          generalize acc (n.toNat + m.toNat) L (ka, kb) (.int .i64 ka) = LL at hT
          go_wp2_with fail
          clear c0 c1 zx
          refine (keys hT.x.1 (by have := hT.x.2; omega)).mono ?_
          rintro e w8 ⟨a1, cap1, rfl, _, _, hr1, ho1, _, hb8⟩
          have HT8 := Lib.hid (hT.below hb8)
          have HB8 := Lib.hid (chain HBT.out hb8)
          have HR1 := Lib.hid hr1
          have HK := Lib.hid hT.first
          have hx2 := hT.x.2
          have hy2 := hT.y.2
          clear hb8 hr1 ho1 hT
          go_wp2_with fail
          refine (keys HT8.out.y.1 (by omega)).mono ?_
          rintro e w9 ⟨a2, cap2, rfl, hc2, _, hr2, ho2, _, hb9⟩
          have HT9 := Lib.hid (HT8.out.below hb9)
          have HB9 := Lib.hid (chain HB8.out hb9)
          have HR1' := Lib.hid (HR1.out.below hb9)
          have HR2 := Lib.hid hr2
          have hKL : KK.length ≤ LL.length := by have := congrArg List.length HK.out; rw [List.length_take] at this; omega
          have hKc : KK.length ≤ cap2 := by omega
          have g1 : ¬ (n.toNat < KK.length) := by omega
          clear hb9 hr2 ho2
          go_wp2_with fail
          have hs : SameKey.Row w9 a2 KK.length (fun i => (KK.getD i ((0, 0), undef)).1.1) (fun i => (KK.getD i ((0, 0), undef)).1.2) := by
            refine (HR2.out.mono hKL).cong (fun i hi => ?_)
            have h1 : KK.getD i ((0, 0), undef) = LL.getD i ((0, 0), undef) := by
              have h2 : KK[i]? = LL[i]? := by
                rw [HK.out, List.getElem?_take]
                rw [HK.out, List.length_take] at hi
                rw [if_pos (by omega)]
              simp only [List.getD, h2]
            rw [h1]
            exact ⟨rfl, rfl⟩
          refine (SameKey.Same_calls a1 a2 KK.length cap1 cap2 _ _ w9 HR1'.out hs (by omega)).mono ?_
          rintro e w10 ⟨rfl, hb10⟩
          have HT10 := Lib.hid (HT9.out.below hb10)
          have HB10 := Lib.hid (chain HB9.out hb10)
          clear hb10 hs
          go_wp2_with fail
          go_roundg (100 - (k + 1))
          case measure => have := HG.out; omega
          case rel => exact ⟨k + 1, KK, LL, F, G, by omega, by omega, rfl, by go_num, HT10.out, HFN.out, HB10.out⟩
        · have HNK := Lib.hid hk1
          clear hk1
          have gi := get_no HX.out.1 (ka, kb) HNK.out
          simp only [encK] at gi
          refine gi.mono ?_
          clear gi
          rintro e w4 ⟨rfl, hb⟩
          have HX4 := Lib.hid (HX.out.below hb)
          have HY4 := Lib.hid (HY.out.below hb)
          have HB4 := Lib.hid (chain HB3.out hb)
          have HK4 := Lib.hid ((hb.block bx (lt_of_heap HX3.out)).trans HX3.out)
          have c0 := cell_at HK4.out 0
          have c1 := cell_at HK4.out 1
          simp only [List.getElem?_toArray, List.getElem?_cons_zero, List.getElem?_cons_succ] at c0 c1
          have zx := lt_of_heap HK4.out
          clear hb
          go_wp2_with fail
          clear c0 c1 zx
          by_cases hk2 : (ka, kb) ∈ L.map (·.1)
          · obtain ⟨A, v, B, hA⟩ := mem_mid hk2
            have hv : v = .int .i64 ka := HT.out.own ((ka, kb), v) (by rw [hA]; simp)
            subst hv
            have HA := Lib.hid hA
            clear hA hk2
            have gi := get_in (A := A) (B := B) (k := (ka, kb)) (v := .int .i64 ka) (by rw [← HA.out]; exact HY4.out)
            simp only [encK] at gi
            refine gi.mono ?_
            clear gi
            rintro e w5 ⟨rfl, hy5, hu5⟩
            have HY5 := Lib.hid hy5
            have HX5 := Lib.hid (HX4.out.upd hu5 (fun i _ h h' => HT.out.apart i h' h))
            have HB5 := Lib.hid (HB4.out.trans (hu5.below HB4.out.size (fun i hi h => by have := HFGr.out i (.inr h); omega)))
            have HK5 := Lib.hid ((hu5.block bx (lt_of_heap HK4.out) NG.out).trans HK4.out)
            have c0 := cell_at HK5.out 0
            have c1 := cell_at HK5.out 1
            simp only [List.getElem?_toArray, List.getElem?_cons_zero, List.getElem?_cons_succ] at c0 c1
            have zx := lt_of_heap HK5.out

            clear hy5 hu5
            go_wp2_with fail
            clear c0 c1 zx
            have gp := put HX5.out (ka, kb) ka
            simp only [encK] at gp
            refine gp.mono ?_
            clear gp
            rintro e w6 ⟨rfl, F6, hx6, hu6, hf6⟩

            have hap : ∀ i, F6 i → ¬ G i := fun i h h' => HT.out.apart i (hf6 i (HY5.out.1.lt h') h) h'
            have HX6 := Lib.hid hx6
            have HY6 := Lib.hid (HY5.out.upd hu6 (fun i _ h => HT.out.apart i h))
            have HBT := Lib.hid (HB5.out.trans (hu6.below HB5.out.size (fun i hi h => by have := HFGr.out i (.inl h); omega)))
            have HFN := Lib.hid (fun i (h : F6 i ∨ G i) => h.elim (fun h => (Nat.lt_or_ge i w5.heap.size).elim (fun h2 => HFGr.out i (.inl (hf6 i h2 h))) (fun h2 => Nat.le_trans HB5.out.size h2)) (fun h => HFGr.out i (.inr h)))
            have hT : Two w6 c d n.toNat m.toNat (acc n.toNat K (ka, kb) (.int .i64 ka)) (acc (n.toNat + m.toNat) L (ka, kb) (.int .i64 ka)) F6 G := by
              refine ⟨HX6.out, ?_, ?_, own_acc HT.out.own, hap⟩
              · have h1 := HY.out
                rw [HA.out] at h1 ⊢
                rw [acc_yes h1.1.nodup h1.2]
                exact HY6.out
              · rw [acc_take HT.out.y.1.nodup, ← HT.out.first]
            generalize acc n.toNat K (ka, kb) (.int .i64 ka) = KK at hT
            generalize acc (n.toNat + m.toNat) L (ka, kb) (.int .i64 ka) = LL at hT
            clear hx6 hu6 hf6 hap
            go_wp2_with fail
            refine (keys hT.x.1 (by have := hT.x.2; omega)).mono ?_
            rintro e w8 ⟨a1, cap1, rfl, _, _, hr1, ho1, _, hb8⟩
            have HT8 := Lib.hid (hT.below hb8)
            have HB8 := Lib.hid (chain HBT.out hb8)
            have HR1 := Lib.hid hr1
            have HK := Lib.hid hT.first
            have hx2 := hT.x.2
            have hy2 := hT.y.2
            clear hb8 hr1 ho1 hT
            go_wp2_with fail
            refine (keys HT8.out.y.1 (by omega)).mono ?_
            rintro e w9 ⟨a2, cap2, rfl, hc2, _, hr2, ho2, _, hb9⟩
            have HT9 := Lib.hid (HT8.out.below hb9)
            have HB9 := Lib.hid (chain HB8.out hb9)
            have HR1' := Lib.hid (HR1.out.below hb9)
            have HR2 := Lib.hid hr2
            have hKL : KK.length ≤ LL.length := by have := congrArg List.length HK.out; rw [List.length_take] at this; omega
            have hKc : KK.length ≤ cap2 := by omega
            have g1 : ¬ (n.toNat < KK.length) := by omega
            clear hb9 hr2 ho2
            go_wp2_with fail
            have hs : SameKey.Row w9 a2 KK.length (fun i => (KK.getD i ((0, 0), undef)).1.1) (fun i => (KK.getD i ((0, 0), undef)).1.2) := by
              refine (HR2.out.mono hKL).cong (fun i hi => ?_)
              have h1 : KK.getD i ((0, 0), undef) = LL.getD i ((0, 0), undef) := by
                have h2 : KK[i]? = LL[i]? := by
                  rw [HK.out, List.getElem?_take]
                  rw [HK.out, List.length_take] at hi
                  rw [if_pos (by omega)]
                simp only [List.getD, h2]
              rw [h1]
              exact ⟨rfl, rfl⟩
            refine (SameKey.Same_calls a1 a2 KK.length cap1 cap2 _ _ w9 HR1'.out hs (by omega)).mono ?_
            rintro e w10 ⟨rfl, hb10⟩
            have HT10 := Lib.hid (HT9.out.below hb10)
            have HB10 := Lib.hid (chain HB9.out hb10)
            clear hb10 hs
            go_wp2_with fail
            go_roundg (100 - (k + 1))
            case measure => have := HG.out; omega
            case rel => exact ⟨k + 1, KK, LL, F6, G, by omega, by omega, rfl, by go_num, HT10.out, HFN.out, HB10.out⟩
          · have HNL := Lib.hid hk2
            clear hk2
            have gi := get_no HY4.out.1 (ka, kb) HNL.out
            simp only [encK] at gi
            refine gi.mono ?_
            clear gi
            rintro e w5 ⟨rfl, hb⟩

            have HX5 := Lib.hid (HX4.out.below hb)
            have HY5 := Lib.hid (HY4.out.below hb)
            have HB5 := Lib.hid (chain HB4.out hb)
            have HK5 := Lib.hid ((hb.block bx (lt_of_heap HK4.out)).trans HK4.out)
            have c0 := cell_at HK5.out 0
            have c1 := cell_at HK5.out 1
            simp only [List.getElem?_toArray, List.getElem?_cons_zero, List.getElem?_cons_succ] at c0 c1
            have zx := lt_of_heap HK5.out

            clear hb
            go_wp2_with fail
            clear c0 c1 zx
            have gp := put HX5.out (ka, kb) ka
            simp only [encK] at gp
            refine gp.mono ?_
            clear gp
            rintro e w6 ⟨rfl, F6, hx6, hu6, hf6⟩

            have HX6 := Lib.hid hx6
            have HY6 := Lib.hid (HY5.out.upd hu6 (fun i _ h => HT.out.apart i h))
            have HB6 := Lib.hid (HB5.out.trans (hu6.below HB5.out.size (fun i hi h => by have := HFGr.out i (.inl h); omega)))
            have HAP := Lib.hid (fun i (h : F6 i) (h' : G i) => HT.out.apart i (hf6 i (HY5.out.1.lt h') h) h')
            have HFN6 := Lib.hid (fun i (h : F6 i ∨ G i) => h.elim (fun h => (Nat.lt_or_ge i w5.heap.size).elim (fun h2 => HFGr.out i (.inl (hf6 i h2 h))) (fun h2 => Nat.le_trans HB5.out.size h2)) (fun h => HFGr.out i (.inr h)))
            have HK6 := Lib.hid ((hu6.block bx (lt_of_heap HK5.out) NF.out).trans HK5.out)
            have c0 := cell_at HK6.out 0
            have c1 := cell_at HK6.out 1
            simp only [List.getElem?_toArray, List.getElem?_cons_zero, List.getElem?_cons_succ] at c0 c1
            have zx := lt_of_heap HK6.out

            clear hx6 hu6 hf6
            go_wp2_with fail
            clear c0 c1 zx
            have gp := put HY6.out (ka, kb) ka
            simp only [encK] at gp
            refine gp.mono ?_
            clear gp
            rintro e w7 ⟨rfl, G7, hy7, hu7, hf7⟩

            have hap : ∀ i, F6 i → ¬ G7 i := fun i h h' => HAP.out i h (hf7 i (HX6.out.1.lt h) h')
            have HY7 := Lib.hid hy7
            have HX7 := Lib.hid (HX6.out.upd hu7 (fun i _ h h' => HAP.out i h' h))
            have HBT := Lib.hid (HB6.out.trans (hu7.below HB6.out.size (fun i hi h => by have := HFGr.out i (.inr h); omega)))
            have HFN := Lib.hid (fun i (h : F6 i ∨ G7 i) => h.elim (fun h => HFN6.out i (.inl h)) (fun h => (Nat.lt_or_ge i w6.heap.size).elim (fun h2 => HFN6.out i (.inr (hf7 i h2 h))) (fun h2 => Nat.le_trans HB6.out.size h2)))
            have hT : Two w7 c d n.toNat m.toNat (acc n.toNat K (ka, kb) (.int .i64 ka)) (acc (n.toNat + m.toNat) L (ka, kb) (.int .i64 ka)) F6 G7 :=
              ⟨HX7.out, HY7.out, by rw [acc_take HT.out.y.1.nodup, ← HT.out.first], own_acc HT.out.own, hap⟩
            generalize acc n.toNat K (ka, kb) (.int .i64 ka) = KK at hT
            generalize acc (n.toNat + m.toNat) L (ka, kb) (.int .i64 ka) = LL at hT
            clear hy7 hu7 hf7 hap
            go_wp2_with fail
            refine (keys hT.x.1 (by have := hT.x.2; omega)).mono ?_
            rintro e w8 ⟨a1, cap1, rfl, _, _, hr1, ho1, _, hb8⟩
            have HT8 := Lib.hid (hT.below hb8)
            have HB8 := Lib.hid (chain HBT.out hb8)
            have HR1 := Lib.hid hr1
            have HK := Lib.hid hT.first
            have hx2 := hT.x.2
            have hy2 := hT.y.2
            clear hb8 hr1 ho1 hT
            go_wp2_with fail
            refine (keys HT8.out.y.1 (by omega)).mono ?_
            rintro e w9 ⟨a2, cap2, rfl, hc2, _, hr2, ho2, _, hb9⟩
            have HT9 := Lib.hid (HT8.out.below hb9)
            have HB9 := Lib.hid (chain HB8.out hb9)
            have HR1' := Lib.hid (HR1.out.below hb9)
            have HR2 := Lib.hid hr2
            have hKL : KK.length ≤ LL.length := by have := congrArg List.length HK.out; rw [List.length_take] at this; omega
            have hKc : KK.length ≤ cap2 := by omega
            have g1 : ¬ (n.toNat < KK.length) := by omega
            clear hb9 hr2 ho2
            go_wp2_with fail
            have hs : SameKey.Row w9 a2 KK.length (fun i => (KK.getD i ((0, 0), undef)).1.1) (fun i => (KK.getD i ((0, 0), undef)).1.2) := by
              refine (HR2.out.mono hKL).cong (fun i hi => ?_)
              have h1 : KK.getD i ((0, 0), undef) = LL.getD i ((0, 0), undef) := by
                have h2 : KK[i]? = LL[i]? := by
                  rw [HK.out, List.getElem?_take]
                  rw [HK.out, List.length_take] at hi
                  rw [if_pos (by omega)]
                simp only [List.getD, h2]
              rw [h1]
              exact ⟨rfl, rfl⟩
            refine (SameKey.Same_calls a1 a2 KK.length cap1 cap2 _ _ w9 HR1'.out hs (by omega)).mono ?_
            rintro e w10 ⟨rfl, hb10⟩
            have HT10 := Lib.hid (HT9.out.below hb10)
            have HB10 := Lib.hid (chain HB9.out hb10)
            clear hb10 hs
            go_wp2_with fail
            go_roundg (100 - (k + 1))
            case measure => have := HG.out; omega
            case rel => exact ⟨k + 1, KK, LL, F6, G7, by omega, by omega, rfl, by go_num, HT10.out, HFN.out, HB10.out⟩
      · have hi2 : ¬ ((k : Int) < 100) := by omega
        have hi : (k : Int) < len := by omega
        go_wp2_with fail
        refine (LruKnown.known_calls wr).mono ?_
        rintro e w3 ⟨rfl, hb3⟩
        have HB3 := Lib.hid (chain HBW.out hb3)
        clear hb3
        go_wp2
        go_ret
        exact ⟨rfl, HB3.out⟩
    · have hi : ¬ ((k : Int) < len) := by omega
      go_wp2_with fail
      refine (LruKnown.known_calls wr).mono ?_
      rintro e w3 ⟨rfl, hb3⟩
      have HB3 := Lib.hid (chain HBW.out hb3)
      clear hb3
      go_wp2
      go_ret
      exact ⟨rfl, HB3.out⟩
end Go.Proofs.Ytgddlcbaieclcaa.lruGreater
