/-
  Chapter 3: what the small functions about spans compute. spans.cut and spans.Size. spans.Size. sort.Search, spans.find, spans.In. Lists of one span or of two, as they lie in memory. Right lists of spans, in plain numbers. The reference's In and Size.
-/
import Derived.Test.YtkjkgpdfhmoenaaDoorProg
import Derived.Test.YtkjkgpdfhmoenaaDoorKit
namespace Go.Proofs.YtkjkgpdfhmoenaaDoor.SpFns
open Go Go.RowKit Go.Proofs.YtkjkgpdfhmoenaaDoor.Kit

attribute [local irreducible] wpQuiet

/-- Is it a scalar value? -/
def VR (r : Int) : Prop := 0 ≤ r ∧ r < 55296 ∨ 57343 < r ∧ r ≤ 1114111
instance (r : Int) : Decidable (VR r) := by unfold VR; infer_instance

theorem vr_iff (r : Int) : VR r ↔ 0 ≤ r ∧ r < 55296 ∨ 57343 < r ∧ r ≤ 1114111 := Iff.rfl
theorem ret_bool {a b : Bool} (h : a = b) : Ending.returned (.bool a) = .returned (.bool b) := by rw [h]

theorem ValidRune_calls (r : Int) (w : World) :
    Calls Tryd.prog 103 #[.int .i32 r] w fun e w' => e = .returned (.bool (decide (VR r))) ∧ w = w' := by
  go_enter Tryd.func103, Tryd.ntmps103
  go_wp2
  all_goals
    go_ret
    exact ⟨ret_bool (by rw [Bool.eq_iff_iff]; simp [vr_iff] <;> omega), rfl⟩

theorem Rune_calls (r : Int) (w : World) :
    Calls Tryd.prog 107 #[.int .i32 r] w fun e w' => e = .returned (.bool (decide (VR r))) ∧ w = w' := by
  go_enter Tryd.func107, Tryd.ntmps107
  go_wp2
  all_goals
    go_ret
    exact ⟨ret_bool (by rw [Bool.eq_iff_iff]; simp [vr_iff] <;> omega), rfl⟩

/-- A slice of spans as it lies in memory. -/
def Row (w : World) (a : Option Addr) (len : Nat) (L H : Nat → Int) : Prop :=
  len = 0 ∨ ∃ b off, a = some ⟨b, off, none⟩ ∧ b < w.heap.size ∧ ∀ i, i < len → w.cell? ⟨b, off + i * 2, none⟩ = some (.int .i32 (L i)) ∧ w.cell? ⟨b, off + i * 2 + 1, none⟩ = some (.int .i32 (H i))

theorem Row.at {w : World} {a : Option Addr} {len : Nat} {L H : Nat → Int} (h : Row w a len L H) {k : Nat} (hk : k < len) :
    ∃ b off, a = some ⟨b, off, none⟩ ∧ b < w.heap.size ∧ ∀ i, i < len → w.cell? ⟨b, off + i * 2, none⟩ = some (.int .i32 (L i)) ∧ w.cell? ⟨b, off + i * 2 + 1, none⟩ = some (.int .i32 (H i)) := by
  rcases h with rfl | h
  · omega
  · exact h

theorem Row.below {w w' : World} {a : Option Addr} {len : Nat} {L H : Nat → Int} (h : Row w a len L H) (hb : Below w.heap.size w w') : Row w' a len L H := by
  rcases h with h | ⟨b, off, rfl, hl, hc⟩
  · exact .inl h
  · have := hb.size
    exact .inr ⟨b, off, rfl, by omega, fun i hi => ⟨by rw [(bcell hb).1 _ _ hl]; exact (hc i hi).1, by rw [(bcell hb).1 _ _ hl]; exact (hc i hi).2⟩⟩

/-- What is wrong with span i: 14, 15; or 0. -/
def bad (L H : Nat → Int) (i : Nat) : Int := if ¬ (VR (L i) ∧ VR (H i)) then 14 else if H i < L i ∨ 0 < i ∧ L i ≤ H (i - 1) then 15 else 0
/-- The first wrong span of n ones from i on, and what is wrong. -/
def rt (L H : Nat → Int) : Nat → Nat → Int × Int
  | 0, _ => (0, 0)
  | n + 1, i => if bad L H i = 0 then rt L H n (i + 1) else (i, bad L H i)

theorem bad_cases (L H : Nat → Int) (k : Nat) : (bad L H k = 14 ∧ ¬ VR (L k)) ∨ (bad L H k = 14 ∧ VR (L k) ∧ ¬ VR (H k)) ∨ (bad L H k = 15 ∧ VR (L k) ∧ VR (H k) ∧ H k < L k) ∨
    (bad L H k = 0 ∧ VR (L k) ∧ VR (H k) ∧ L k ≤ H k ∧ k = 0) ∨ (bad L H k = 15 ∧ VR (L k) ∧ VR (H k) ∧ L k ≤ H k ∧ 0 < k ∧ L k ≤ H (k - 1)) ∨ (bad L H k = 0 ∧ VR (L k) ∧ VR (H k) ∧ L k ≤ H k ∧ 0 < k ∧ H (k - 1) < L k) := by
  unfold bad
  by_cases h1 : VR (L k)
  · by_cases h2 : VR (H k)
    · by_cases h3 : H k < L k
      · simp [h1, h2, h3]
      · by_cases h4 : 0 < k
        · by_cases h5 : L k ≤ H (k - 1)
          · have : L k ≤ H k := by omega
            simp [h1, h2, h3, h4, h5, this]
          · have g1 : L k ≤ H k := by omega
            have g2 : H (k - 1) < L k := by omega
            have g3 : k ≠ 0 := by omega
            simp [h1, h2, h3, h4, h5, g1, g2, g3]
        · have : L k ≤ H k := by omega
          have h5 : k = 0 := by omega
          subst h5
          simp [h1, h2, h3, this]
    · simp [h1, h2]
  · simp [h1]

theorem rt_stop {L H : Nat → Int} {len k : Nat} {R : Int × Int} (h : rt L H (len - k) k = R) (hlt : k < len) {e : Int} (hb : bad L H k = e) (he : e ≠ 0) : R = ((k : Int), e) := by
  rw [← h, show len - k = (len - k - 1) + 1 by omega]
  simp [rt, hb, he]
theorem rt_on {L H : Nat → Int} {len k : Nat} {R : Int × Int} (h : rt L H (len - k) k = R) (hlt : k < len) (hb : bad L H k = 0) : rt L H (len - (k + 1)) (k + 1) = R := by
  rw [← h, show len - k = (len - (k + 1)) + 1 by omega]
  simp [rt, hb]
theorem rt_end {L H : Nat → Int} {len : Nat} {R : Int × Int} (h : rt L H (len - len) len = R) : R = (0, 0) := by
  rw [← h, Nat.sub_self]; rfl

set_option maxHeartbeats 1000000 in
set_option maxRecDepth 100000 in
theorem refRight_calls (a : Option Addr) (len cap : Nat) (L H : Nat → Int) (w : World) (hr : Row w a len L H) (hl : len ≤ 9223372036854775807) :
    Calls Tryd.prog 89 #[.slice a len cap] w fun e w' =>
      e = .returned (.tuple #[.int .i64 (rt L H len 0).1, .int .i64 (rt L H len 0).2]) ∧ Below w.heap.size w w' := by
  obtain ⟨R, hR⟩ : ∃ R, rt L H len 0 = R := ⟨_, rfl⟩
  rw [hR]
  have HR := Lib.hid hR
  have HROW := Lib.hid hr
  clear hR hr
  go_enter Tryd.func89, Tryd.ntmps89
  go_wp2_with fail
  go_loopg [4] len (fun g i wr => ∃ k : Nat, k ≤ len ∧ g = len - k ∧ i = .int .i64 k ∧ Below w.heap.size w wr ∧ rt L H (len - k) k = R)
  case atStart => exact ⟨0, Nat.zero_le _, by omega, rfl, Below.refl _ _, HR.out⟩
  case round =>
    obtain ⟨k, hk, hg, rfl, hbw, hrt⟩ := hrel
    have HG := Lib.hid hg
    clear hg
    have HBW := Lib.hid hbw
    by_cases hlt : k < len
    · have hr2 := HROW.out.below hbw
      clear hbw
      obtain ⟨b, off, rfl, hbl, hc⟩ := hr2.at hlt
      have c0 := (hc k hlt).1
      have c1 := (hc k hlt).2
      have hs : ∀ e, bad L H k = e → e ≠ 0 → R = ((k : Int), e) := fun e h1 h2 => rt_stop hrt hlt h1 h2
      have ho := @rt_on L H len k R hrt hlt
      have HS := Lib.hid hs
      have HO := Lib.hid ho
      clear hrt hs ho hr2
      have hi : (k : Int) < len := by omega
      rcases bad_cases L H k with ⟨hb, q1⟩ | ⟨hb, q1, q2⟩ | ⟨hb, q1, q2, q3⟩ | ⟨hb, q1, q2, q3, q4⟩ | ⟨hb, q1, q2, q3, q4, q5⟩ | ⟨hb, q1, q2, q3, q4, q5⟩
      · go_wp2_with (go_at_call 107; refine (Rune_calls _ _).mono ?_; rintro e w' ⟨rfl, rfl⟩)
        go_ret2
        rw [HS.out _ hb (by decide)]
        exact ⟨rfl, by first | exact HBW.out | exact Later.chain HBW.out x⟩
      · go_wp2_with (go_at_call 107; refine (Rune_calls _ _).mono ?_; rintro e w' ⟨rfl, rfl⟩)
        go_ret2
        rw [HS.out _ hb (by decide)]
        exact ⟨rfl, by first | exact HBW.out | exact Later.chain HBW.out x⟩
      · go_wp2_with (go_at_call 107; refine (Rune_calls _ _).mono ?_; rintro e w' ⟨rfl, rfl⟩)
        refine region_calm (by kernel_rfl) (by kernel_rfl) ?_
        repeat (quiet_step ((fail)))
        refine wpQuiet_nil ?_
        rintro _ ⟨x, rfl⟩
        go_wp2
        go_ret2
        rw [HS.out _ hb (by decide)]
        exact ⟨rfl, by first | exact HBW.out | exact Later.chain HBW.out x⟩
      · subst q4
        simp only [Nat.zero_mul, Nat.add_zero] at c0 c1
        go_wp2_with (go_at_call 107; refine (Rune_calls _ _).mono ?_; rintro e w' ⟨rfl, rfl⟩)
        refine region_calm (by kernel_rfl) (by kernel_rfl) ?_
        repeat (quiet_step ((fail)))
        refine wpQuiet_nil ?_
        rintro _ ⟨x, rfl⟩
        go_wp2
        go_roundg (gk - 1)
        case measure => have := HG.out; omega
        case rel => exact ⟨0 + 1, by omega, by have := HG.out; omega, by go_num, Later.chain HBW.out x, HO.out hb⟩
      · have q6 : (0 : Int) < k := by omega
        have c2 := (hc (k - 1) (by omega)).2
        have hw : IntKind.i64.wrap ((k : Int) - 1) = ((k - 1 : Nat) : Int) := by rw [i64w _ (by omega) (by omega)]; omega
        have hj : k - 1 < len := by omega
        have hj' : ((k - 1 : Nat) : Int) < len := by omega
        go_wp2_with (go_at_call 107; refine (Rune_calls _ _).mono ?_; rintro e w' ⟨rfl, rfl⟩)
        refine region_calm (by kernel_rfl) (by kernel_rfl) ?_
        repeat (quiet_step ((fail)))
        refine wpQuiet_nil ?_
        rintro _ ⟨x, rfl⟩
        go_wp2
        go_ret2
        rw [HS.out _ hb (by decide)]
        exact ⟨rfl, by first | exact HBW.out | exact Later.chain HBW.out x⟩
      · have q6 : (0 : Int) < k := by omega
        have c2 := (hc (k - 1) (by omega)).2
        have hw : IntKind.i64.wrap ((k : Int) - 1) = ((k - 1 : Nat) : Int) := by rw [i64w _ (by omega) (by omega)]; omega
        have hj : k - 1 < len := by omega
        have hj' : ((k - 1 : Nat) : Int) < len := by omega
        go_wp2_with (go_at_call 107; refine (Rune_calls _ _).mono ?_; rintro e w' ⟨rfl, rfl⟩)
        refine region_calm (by kernel_rfl) (by kernel_rfl) ?_
        repeat (quiet_step ((fail)))
        refine wpQuiet_nil ?_
        rintro _ ⟨x, rfl⟩
        go_wp2
        go_roundg (gk - 1)
        case measure => have := HG.out; omega
        case rel => exact ⟨k + 1, by omega, by have := HG.out; omega, by go_num, Later.chain HBW.out x, HO.out hb⟩
    · have hkn : k = len := by omega
      subst hkn
      go_wp2
      go_ret2
      rw [rt_end hrt]
      exact ⟨rfl, hbw⟩
end Go.Proofs.YtkjkgpdfhmoenaaDoor.SpFns
namespace Go.Proofs.YtkjkgpdfhmoenaaDoor.SpCut
open Go Go.RowKit Go.Proofs.YtkjkgpdfhmoenaaDoor.Kit Go.Proofs.YtkjkgpdfhmoenaaDoor.SpFns
attribute [local irreducible] wpQuiet

theorem oneFacts {w W2 : World} {A : Array Value} {t : TypeId} (hW : w.alloc (.cells A t) = W2) {k : Nat} (hk : k = w.heap.size) :
    Below w.heap.size w W2 ∧ W2.heap.size = k + 1 ∧ W2.heap[k]? = some (.cells A t (0, 0)) := by
  subst hW
  exact ⟨(Below.refl _ _).alloc (Nat.le_refl _) _, by simp [hk], alloc_new hk⟩

theorem RG_begin_at {P : Program} {Q : Exit → Act → World → Prop} {id : Nat} {a : Act} {w B : World} {l : List Oper} (n : Nat) (listed : Array Bool) (hn : l.length = n) (hl : Array.replicate n false = listed) (hm : P.follows .mixedOrders = true)
    (hB : Below B.heap.size B w)
    (h : ∀ R : Act → World → Prop, (∀ a w, Q .normal a w → R a w) → Below B.heap.size B w.drew → RG P l.toArray R B n listed a w.drew) : (Code.region id l.toArray true).wp P Q a w := by
  refine Code.wp_mono (Q := OnlyNormal (Q .normal)) (fun e a w hq => by cases e <;> first | exact hq | exact hq.elim) ?_
  refine wp_region_held (S := Below B.heap.size B) hm ?_
  have hd : Below B.heap.size B w.drew := hB.drew
  have h' := h _ (fun _ _ h => h) hd hd
  subst hn
  subst hl
  simpa using h'

set_option maxRecDepth 100000 in
theorem cut_calls (l h' : Int) (w : World) :
    Calls Tryd.prog 125 #[.agg #[.int .i32 l, .int .i32 h']] w fun e w' =>
      e = .returned (.tuple #[.agg #[.int .i32 (max l 0), .int .i32 (min h' 1114111)], .bool (decide (max l 0 ≤ min h' 1114111))]) ∧ Below w.heap.size w w' := by
  go_enter Tryd.func125, Tryd.ntmps125
  go_wp2_with fail
  · generalize hW2 : World.alloc w _ = W2
    obtain ⟨k, hk⟩ : ∃ k, k = w.heap.size := ⟨_, rfl⟩
    obtain ⟨hB, hk2, hh⟩ := oneFacts hW2 hk
    have e1 := cell_at hh
    have c0 := e1 0
    have c1 := e1 1
    have hn : k < W2.heap.size := by omega
    simp only [List.getElem?_toArray, List.getElem?_cons_zero, List.getElem?_cons_succ] at c0 c1
    rw [← hk, ← hk2]
    clear hW2 e1 hh
    have HB := Lib.hid hB
    have HK := Lib.hid hk
    clear hB hk
    have hB3 : Below W2.heap.size W2 (W2.alloc (.cells #[.int .i32 0, .int .i32 0] 129)) := (Below.refl _ _).alloc (Nat.le_refl _) _
    refine RG_begin_at 8 #[false, false, false, false, false, false, false, false] rfl rfl (by kernel_rfl) hB3 (fun R hR hacc => ?_)
    refine RG_take (i := 0) (v := ?v32x1) (some 12) #[true, false, false, false, false, false, false, false] rfl rfl (by kernel_rfl) (by kernel_rfl) (by kernel_rfl) rfl rfl (fun x => ?h32x1) ?n32x1
    case h32x1 => (go_simp; try with_reducible rfl)
    try simp only [Act.put, List.setIfInBounds_toArray, List.set_cons_zero, List.set_cons_succ]
    refine RG_take (i := 1) (v := ?v32x2) (some 13) #[true, true, false, false, false, false, false, false] rfl rfl (by kernel_rfl) (by kernel_rfl) (by kernel_rfl) rfl rfl (fun x => ?h32x2) ?n32x2
    case h32x2 => (go_simp; try with_reducible rfl)
    try simp only [Act.put, List.setIfInBounds_toArray, List.set_cons_zero, List.set_cons_succ]
    refine RG_take (i := 2) (v := ?v32x3) (some 14) #[true, true, true, false, false, false, false, false] rfl rfl (by kernel_rfl) (by kernel_rfl) (by kernel_rfl) rfl rfl (fun x => ?h32x3) ?n32x3
    case h32x3 => (go_simp; try with_reducible rfl)
    try simp only [Act.put, List.setIfInBounds_toArray, List.set_cons_zero, List.set_cons_succ]
    refine RG_take (i := 3) (v := ?v32x4) (some 15) #[true, true, true, true, false, false, false, false] rfl rfl (by kernel_rfl) (by kernel_rfl) (by kernel_rfl) rfl rfl (fun x => ?h32x4) ?n32x4
    case h32x4 => (go_simp; try with_reducible rfl)
    try simp only [Act.put, List.setIfInBounds_toArray, List.set_cons_zero, List.set_cons_succ]
    refine RG_take (i := 4) (v := ?v32x5) (some 16) #[true, true, true, true, true, false, false, false] rfl rfl (by kernel_rfl) (by kernel_rfl) (by kernel_rfl) rfl rfl (fun x => ?h32x5) ?n32x5
    case h32x5 => (go_simp; try with_reducible rfl)
    try simp only [Act.put, List.setIfInBounds_toArray, List.set_cons_zero, List.set_cons_succ]
    refine RG_take (i := 5) (v := ?v32x6) (some 17) #[true, true, true, true, true, true, false, false] rfl rfl (by kernel_rfl) (by kernel_rfl) (by kernel_rfl) rfl rfl (fun x => ?h32x6) ?n32x6
    case h32x6 => (go_simp; try with_reducible rfl)
    try simp only [Act.put, List.setIfInBounds_toArray, List.set_cons_zero, List.set_cons_succ]
    refine RG_one (i := 6) #[true, true, true, true, true, true, true, false] rfl (by kernel_rfl) rfl rfl (fun K hK => ?_)
    go_wp2_with fail
    refine RG_keep hK (by first | exact hacc | exact ((Below.refl _ _).alloc (Nat.le_refl _) _).drew | exact (hacc.setCell (by first | omega | (simp; done) | (simp; omega)) _).setCell (by first | omega | (simp; done) | (simp; omega)) _) (fun hacc => ?_)
    clear hK K
    try simp only [Act.put, List.setIfInBounds_toArray, List.set_cons_zero, List.set_cons_succ]
    refine RG_take (i := 7) (v := ?v32x7) (some 3) #[true, true, true, true, true, true, true, true] rfl rfl (by kernel_rfl) (by kernel_rfl) (by kernel_rfl) rfl rfl (fun x => ?h32x7) ?n32x7
    case h32x7 => (go_simp; try with_reducible rfl)
    try simp only [Act.put, List.setIfInBounds_toArray, List.set_cons_zero, List.set_cons_succ]
    refine RG_done (by kernel_rfl) ?_
    refine hR _ _ ?_
    clear hR R
    go_wp2
    refine bodyPost_ret (v := .tuple #[.agg #[.int .i32 (0), .int .i32 (1114111)], .bool (true)]) (by simp [results, Tryd.results125, go_sem, hk2]) rfl ⟨?_, ?_⟩
    · rw [show max l 0 = 0 by omega, show min h' 1114111 = 1114111 by omega]; rfl
    · have := HK.out
      exact HB.out.trans (hacc.mono (by omega))
  · generalize hW2 : World.alloc w _ = W2
    obtain ⟨k, hk⟩ : ∃ k, k = w.heap.size := ⟨_, rfl⟩
    obtain ⟨hB, hk2, hh⟩ := oneFacts hW2 hk
    have e1 := cell_at hh
    have c0 := e1 0
    have c1 := e1 1
    have hn : k < W2.heap.size := by omega
    simp only [List.getElem?_toArray, List.getElem?_cons_zero, List.getElem?_cons_succ] at c0 c1
    rw [← hk, ← hk2]
    clear hW2 e1 hh
    have HB := Lib.hid hB
    have HK := Lib.hid hk
    clear hB hk
    have hB3 : Below W2.heap.size W2 (W2.alloc (.cells #[.int .i32 0, .int .i32 0] 129)) := (Below.refl _ _).alloc (Nat.le_refl _) _
    refine RG_begin_at 8 #[false, false, false, false, false, false, false, false] rfl rfl (by kernel_rfl) hB3 (fun R hR hacc => ?_)
    refine RG_take (i := 0) (v := ?v42x1) (some 12) #[true, false, false, false, false, false, false, false] rfl rfl (by kernel_rfl) (by kernel_rfl) (by kernel_rfl) rfl rfl (fun x => ?h42x1) ?n42x1
    case h42x1 => (go_simp; try with_reducible rfl)
    try simp only [Act.put, List.setIfInBounds_toArray, List.set_cons_zero, List.set_cons_succ]
    refine RG_take (i := 1) (v := ?v42x2) (some 13) #[true, true, false, false, false, false, false, false] rfl rfl (by kernel_rfl) (by kernel_rfl) (by kernel_rfl) rfl rfl (fun x => ?h42x2) ?n42x2
    case h42x2 => (go_simp; try with_reducible rfl)
    try simp only [Act.put, List.setIfInBounds_toArray, List.set_cons_zero, List.set_cons_succ]
    refine RG_take (i := 2) (v := ?v42x3) (some 14) #[true, true, true, false, false, false, false, false] rfl rfl (by kernel_rfl) (by kernel_rfl) (by kernel_rfl) rfl rfl (fun x => ?h42x3) ?n42x3
    case h42x3 => (go_simp; try with_reducible rfl)
    try simp only [Act.put, List.setIfInBounds_toArray, List.set_cons_zero, List.set_cons_succ]
    refine RG_take (i := 3) (v := ?v42x4) (some 15) #[true, true, true, true, false, false, false, false] rfl rfl (by kernel_rfl) (by kernel_rfl) (by kernel_rfl) rfl rfl (fun x => ?h42x4) ?n42x4
    case h42x4 => (go_simp; try with_reducible rfl)
    try simp only [Act.put, List.setIfInBounds_toArray, List.set_cons_zero, List.set_cons_succ]
    refine RG_take (i := 4) (v := ?v42x5) (some 16) #[true, true, true, true, true, false, false, false] rfl rfl (by kernel_rfl) (by kernel_rfl) (by kernel_rfl) rfl rfl (fun x => ?h42x5) ?n42x5
    case h42x5 => (go_simp; try with_reducible rfl)
    try simp only [Act.put, List.setIfInBounds_toArray, List.set_cons_zero, List.set_cons_succ]
    refine RG_take (i := 5) (v := ?v42x6) (some 17) #[true, true, true, true, true, true, false, false] rfl rfl (by kernel_rfl) (by kernel_rfl) (by kernel_rfl) rfl rfl (fun x => ?h42x6) ?n42x6
    case h42x6 => (go_simp; try with_reducible rfl)
    try simp only [Act.put, List.setIfInBounds_toArray, List.set_cons_zero, List.set_cons_succ]
    refine RG_one (i := 6) #[true, true, true, true, true, true, true, false] rfl (by kernel_rfl) rfl rfl (fun K hK => ?_)
    go_wp2_with fail
    refine RG_keep hK (by first | exact hacc | exact ((Below.refl _ _).alloc (Nat.le_refl _) _).drew | exact (hacc.setCell (by first | omega | (simp; done) | (simp; omega)) _).setCell (by first | omega | (simp; done) | (simp; omega)) _) (fun hacc => ?_)
    clear hK K
    try simp only [Act.put, List.setIfInBounds_toArray, List.set_cons_zero, List.set_cons_succ]
    refine RG_take (i := 7) (v := ?v42x7) (some 3) #[true, true, true, true, true, true, true, true] rfl rfl (by kernel_rfl) (by kernel_rfl) (by kernel_rfl) rfl rfl (fun x => ?h42x7) ?n42x7
    case h42x7 => (go_simp; try with_reducible rfl)
    try simp only [Act.put, List.setIfInBounds_toArray, List.set_cons_zero, List.set_cons_succ]
    refine RG_done (by kernel_rfl) ?_
    refine hR _ _ ?_
    clear hR R
    go_wp2
    refine bodyPost_ret (v := .tuple #[.agg #[.int .i32 (0), .int .i32 (h')], .bool (decide (0 ≤ h'))]) (by simp [results, Tryd.results125, go_sem, hk2]) rfl ⟨?_, ?_⟩
    · rw [show max l 0 = 0 by omega, show min h' 1114111 = h' by omega]
    · have := HK.out
      exact HB.out.trans (hacc.mono (by omega))
  · generalize hW2 : World.alloc w _ = W2
    obtain ⟨k, hk⟩ : ∃ k, k = w.heap.size := ⟨_, rfl⟩
    obtain ⟨hB, hk2, hh⟩ := oneFacts hW2 hk
    have e1 := cell_at hh
    have c0 := e1 0
    have c1 := e1 1
    have hn : k < W2.heap.size := by omega
    simp only [List.getElem?_toArray, List.getElem?_cons_zero, List.getElem?_cons_succ] at c0 c1
    rw [← hk, ← hk2]
    clear hW2 e1 hh
    have HB := Lib.hid hB
    have HK := Lib.hid hk
    clear hB hk
    have hB3 : Below W2.heap.size W2 (W2.alloc (.cells #[.int .i32 0, .int .i32 0] 129)) := (Below.refl _ _).alloc (Nat.le_refl _) _
    refine RG_begin_at 8 #[false, false, false, false, false, false, false, false] rfl rfl (by kernel_rfl) hB3 (fun R hR hacc => ?_)
    refine RG_take (i := 0) (v := ?v52x1) (some 12) #[true, false, false, false, false, false, false, false] rfl rfl (by kernel_rfl) (by kernel_rfl) (by kernel_rfl) rfl rfl (fun x => ?h52x1) ?n52x1
    case h52x1 => (go_simp; try with_reducible rfl)
    try simp only [Act.put, List.setIfInBounds_toArray, List.set_cons_zero, List.set_cons_succ]
    refine RG_take (i := 1) (v := ?v52x2) (some 13) #[true, true, false, false, false, false, false, false] rfl rfl (by kernel_rfl) (by kernel_rfl) (by kernel_rfl) rfl rfl (fun x => ?h52x2) ?n52x2
    case h52x2 => (go_simp; try with_reducible rfl)
    try simp only [Act.put, List.setIfInBounds_toArray, List.set_cons_zero, List.set_cons_succ]
    refine RG_take (i := 2) (v := ?v52x3) (some 14) #[true, true, true, false, false, false, false, false] rfl rfl (by kernel_rfl) (by kernel_rfl) (by kernel_rfl) rfl rfl (fun x => ?h52x3) ?n52x3
    case h52x3 => (go_simp; try with_reducible rfl)
    try simp only [Act.put, List.setIfInBounds_toArray, List.set_cons_zero, List.set_cons_succ]
    refine RG_take (i := 3) (v := ?v52x4) (some 15) #[true, true, true, true, false, false, false, false] rfl rfl (by kernel_rfl) (by kernel_rfl) (by kernel_rfl) rfl rfl (fun x => ?h52x4) ?n52x4
    case h52x4 => (go_simp; try with_reducible rfl)
    try simp only [Act.put, List.setIfInBounds_toArray, List.set_cons_zero, List.set_cons_succ]
    refine RG_take (i := 4) (v := ?v52x5) (some 16) #[true, true, true, true, true, false, false, false] rfl rfl (by kernel_rfl) (by kernel_rfl) (by kernel_rfl) rfl rfl (fun x => ?h52x5) ?n52x5
    case h52x5 => (go_simp; try with_reducible rfl)
    try simp only [Act.put, List.setIfInBounds_toArray, List.set_cons_zero, List.set_cons_succ]
    refine RG_take (i := 5) (v := ?v52x6) (some 17) #[true, true, true, true, true, true, false, false] rfl rfl (by kernel_rfl) (by kernel_rfl) (by kernel_rfl) rfl rfl (fun x => ?h52x6) ?n52x6
    case h52x6 => (go_simp; try with_reducible rfl)
    try simp only [Act.put, List.setIfInBounds_toArray, List.set_cons_zero, List.set_cons_succ]
    refine RG_one (i := 6) #[true, true, true, true, true, true, true, false] rfl (by kernel_rfl) rfl rfl (fun K hK => ?_)
    go_wp2_with fail
    refine RG_keep hK (by first | exact hacc | exact ((Below.refl _ _).alloc (Nat.le_refl _) _).drew | exact (hacc.setCell (by first | omega | (simp; done) | (simp; omega)) _).setCell (by first | omega | (simp; done) | (simp; omega)) _) (fun hacc => ?_)
    clear hK K
    try simp only [Act.put, List.setIfInBounds_toArray, List.set_cons_zero, List.set_cons_succ]
    refine RG_take (i := 7) (v := ?v52x7) (some 3) #[true, true, true, true, true, true, true, true] rfl rfl (by kernel_rfl) (by kernel_rfl) (by kernel_rfl) rfl rfl (fun x => ?h52x7) ?n52x7
    case h52x7 => (go_simp; try with_reducible rfl)
    try simp only [Act.put, List.setIfInBounds_toArray, List.set_cons_zero, List.set_cons_succ]
    refine RG_done (by kernel_rfl) ?_
    refine hR _ _ ?_
    clear hR R
    go_wp2
    refine bodyPost_ret (v := .tuple #[.agg #[.int .i32 (l), .int .i32 (1114111)], .bool (decide (l ≤ 1114111))]) (by simp [results, Tryd.results125, go_sem, hk2]) rfl ⟨?_, ?_⟩
    · rw [show max l 0 = l by omega, show min h' 1114111 = 1114111 by omega]
    · have := HK.out
      exact HB.out.trans (hacc.mono (by omega))
  · generalize hW2 : World.alloc w _ = W2
    obtain ⟨k, hk⟩ : ∃ k, k = w.heap.size := ⟨_, rfl⟩
    obtain ⟨hB, hk2, hh⟩ := oneFacts hW2 hk
    have e1 := cell_at hh
    have c0 := e1 0
    have c1 := e1 1
    have hn : k < W2.heap.size := by omega
    simp only [List.getElem?_toArray, List.getElem?_cons_zero, List.getElem?_cons_succ] at c0 c1
    rw [← hk, ← hk2]
    clear hW2 e1 hh
    have HB := Lib.hid hB
    have HK := Lib.hid hk
    clear hB hk
    have hB3 : Below W2.heap.size W2 (W2.alloc (.cells #[.int .i32 0, .int .i32 0] 129)) := (Below.refl _ _).alloc (Nat.le_refl _) _
    refine RG_begin_at 8 #[false, false, false, false, false, false, false, false] rfl rfl (by kernel_rfl) hB3 (fun R hR hacc => ?_)
    refine RG_take (i := 0) (v := ?v62x1) (some 12) #[true, false, false, false, false, false, false, false] rfl rfl (by kernel_rfl) (by kernel_rfl) (by kernel_rfl) rfl rfl (fun x => ?h62x1) ?n62x1
    case h62x1 => (go_simp; try with_reducible rfl)
    try simp only [Act.put, List.setIfInBounds_toArray, List.set_cons_zero, List.set_cons_succ]
    refine RG_take (i := 1) (v := ?v62x2) (some 13) #[true, true, false, false, false, false, false, false] rfl rfl (by kernel_rfl) (by kernel_rfl) (by kernel_rfl) rfl rfl (fun x => ?h62x2) ?n62x2
    case h62x2 => (go_simp; try with_reducible rfl)
    try simp only [Act.put, List.setIfInBounds_toArray, List.set_cons_zero, List.set_cons_succ]
    refine RG_take (i := 2) (v := ?v62x3) (some 14) #[true, true, true, false, false, false, false, false] rfl rfl (by kernel_rfl) (by kernel_rfl) (by kernel_rfl) rfl rfl (fun x => ?h62x3) ?n62x3
    case h62x3 => (go_simp; try with_reducible rfl)
    try simp only [Act.put, List.setIfInBounds_toArray, List.set_cons_zero, List.set_cons_succ]
    refine RG_take (i := 3) (v := ?v62x4) (some 15) #[true, true, true, true, false, false, false, false] rfl rfl (by kernel_rfl) (by kernel_rfl) (by kernel_rfl) rfl rfl (fun x => ?h62x4) ?n62x4
    case h62x4 => (go_simp; try with_reducible rfl)
    try simp only [Act.put, List.setIfInBounds_toArray, List.set_cons_zero, List.set_cons_succ]
    refine RG_take (i := 4) (v := ?v62x5) (some 16) #[true, true, true, true, true, false, false, false] rfl rfl (by kernel_rfl) (by kernel_rfl) (by kernel_rfl) rfl rfl (fun x => ?h62x5) ?n62x5
    case h62x5 => (go_simp; try with_reducible rfl)
    try simp only [Act.put, List.setIfInBounds_toArray, List.set_cons_zero, List.set_cons_succ]
    refine RG_take (i := 5) (v := ?v62x6) (some 17) #[true, true, true, true, true, true, false, false] rfl rfl (by kernel_rfl) (by kernel_rfl) (by kernel_rfl) rfl rfl (fun x => ?h62x6) ?n62x6
    case h62x6 => (go_simp; try with_reducible rfl)
    try simp only [Act.put, List.setIfInBounds_toArray, List.set_cons_zero, List.set_cons_succ]
    refine RG_one (i := 6) #[true, true, true, true, true, true, true, false] rfl (by kernel_rfl) rfl rfl (fun K hK => ?_)
    go_wp2_with fail
    refine RG_keep hK (by first | exact hacc | exact ((Below.refl _ _).alloc (Nat.le_refl _) _).drew | exact (hacc.setCell (by first | omega | (simp; done) | (simp; omega)) _).setCell (by first | omega | (simp; done) | (simp; omega)) _) (fun hacc => ?_)
    clear hK K
    try simp only [Act.put, List.setIfInBounds_toArray, List.set_cons_zero, List.set_cons_succ]
    refine RG_take (i := 7) (v := ?v62x7) (some 3) #[true, true, true, true, true, true, true, true] rfl rfl (by kernel_rfl) (by kernel_rfl) (by kernel_rfl) rfl rfl (fun x => ?h62x7) ?n62x7
    case h62x7 => (go_simp; try with_reducible rfl)
    try simp only [Act.put, List.setIfInBounds_toArray, List.set_cons_zero, List.set_cons_succ]
    refine RG_done (by kernel_rfl) ?_
    refine hR _ _ ?_
    clear hR R
    go_wp2
    refine bodyPost_ret (v := .tuple #[.agg #[.int .i32 (l), .int .i32 (h')], .bool (decide (l ≤ h'))]) (by simp [results, Tryd.results125, go_sem, hk2]) rfl ⟨?_, ?_⟩
    · rw [show max l 0 = l by omega, show min h' 1114111 = h' by omega]
    · have := HK.out
      exact HB.out.trans (hacc.mono (by omega))
end Go.Proofs.YtkjkgpdfhmoenaaDoor.SpCut
namespace Go.Proofs.YtkjkgpdfhmoenaaDoor.SpSize
open Go Go.RowKit Go.Proofs.YtkjkgpdfhmoenaaDoor.Kit Go.Proofs.YtkjkgpdfhmoenaaDoor.SpFns Go.Proofs.YtkjkgpdfhmoenaaDoor.SpCut
attribute [local irreducible] wpQuiet

/-- How many runes a span has. -/
def sz (l h : Int) : Int := if max l 0 ≤ min h 1114111 then min h 1114111 - max l 0 + 1 - max 0 (min (min h 1114111) 57343 - max (max l 0) 55296 + 1) else 0
def sum (L H : Nat → Int) : Nat → Int
  | 0 => 0
  | k + 1 => sum L H k + sz (L k) (H k)

theorem sz_le (l h : Int) : 0 ≤ sz l h ∧ sz l h ≤ 1114112 := by
  unfold sz
  split <;> omega
theorem sum_le (L H : Nat → Int) (k : Nat) : 0 ≤ sum L H k ∧ sum L H k ≤ 1114112 * k := by
  induction k with
  | zero => exact ⟨Int.le_refl _, by simp [sum]⟩
  | succ k ih =>
    have := sz_le (L k) (H k)
    simp only [sum]
    omega
theorem i32w (n : Int) (h1 : -2147483648 ≤ n) (h2 : n ≤ 2147483647) : IntKind.i32.wrap n = n := IntWalk.i32_in n ⟨h1, h2⟩
theorem roundBelow {w wr w1 : World} {o o' : Obj} (h : Below w.heap.size w wr) (hb : Below (wr.alloc o).heap.size (wr.alloc o) w1) : Below w.heap.size w (w1.alloc o') := by
  have h2 := chain (h.alloc h.size o) hb
  exact h2.alloc h2.size o'

set_option maxHeartbeats 2000000 in
set_option maxRecDepth 100000 in
theorem Size_calls (a : Option Addr) (len cap : Nat) (L H : Nat → Int) (w : World) (hr : Row w a len L H) (hl : len ≤ 1114112) :
    Calls Tryd.prog 105 #[.slice a len cap] w fun e w' => e = .returned (.int .i64 (sum L H len)) ∧ Below w.heap.size w w' := by
  have HROW := Lib.hid hr
  clear hr
  go_enter Tryd.func105, Tryd.ntmps105
  go_wp2_with fail
  go_loopg [10, 3] len (fun g s10 s3 wr => ∃ k : Nat, k ≤ len ∧ g = len - k ∧ s10 = .int .i64 k ∧ s3 = .int .i64 (sum L H k) ∧ Below w.heap.size w wr)
  case atStart => exact ⟨0, Nat.zero_le _, by omega, rfl, rfl, Below.refl _ _⟩
  case round =>
    obtain ⟨k, hk, hg, rfl, rfl, hbw⟩ := hrel
    have HG := Lib.hid hg
    have HBW := Lib.hid hbw
    clear hg
    by_cases hlt : k < len
    · obtain ⟨b, off, rfl, hbl, hc⟩ := (HROW.out.below hbw).at hlt
      have c0 := (hc k hlt).1
      have c1 := (hc k hlt).2
      clear hc hbw
      have hi : (k : Int) < len := by omega
      obtain ⟨l, hl'⟩ : ∃ l, l = L k := ⟨_, rfl⟩
      obtain ⟨h, hh'⟩ : ∃ h, h = H k := ⟨_, rfl⟩
      rw [← hl'] at c0
      rw [← hh'] at c1
      have hs : sum L H (k + 1) = sum L H k + sz l h := by rw [hl', hh']; rfl
      have hsk := sum_le L H k
      have hsz := sz_le l h
      obtain ⟨S, hS⟩ : ∃ S, S = sum L H k := ⟨_, rfl⟩
      rw [← hS] at hs hsk ⊢
      clear hl' hh' hS
      have HS := Lib.hid hs
      clear hs
      obtain ⟨lo, hlo⟩ : ∃ lo, lo = max l 0 := ⟨_, rfl⟩
      obtain ⟨hi', hhi⟩ : ∃ hi', hi' = min h 1114111 := ⟨_, rfl⟩
      have HCUT := Lib.hid (fun w => cut_calls l h w)
      unfold sz at HS hsz
      simp only [← hlo, ← hhi] at HCUT HS hsz
      have b1 : 0 ≤ lo := by omega
      have b2 : hi' ≤ 1114111 := by omega
      clear hlo hhi
      have HSZ := Lib.hid hsz
      clear hsz
      by_cases hok : lo ≤ hi'
      · have m1 : IntKind.i32.wrap (hi' - lo) = hi' - lo := i32w _ (by omega) (by omega)
        go_wp2_with (go_at_call 125; with_reducible refine (HCUT.out _).mono ?_; rintro e w1 ⟨rfl, hb⟩; have HB := Lib.hid hb; clear hb)
        all_goals
          go_roundg (gk - 1)
          · exact ⟨k + 1, by omega, by have := HG.out; omega, by go_num, by rw [HS.out, if_pos hok]; exact congrArg (Value.int .i64) (by omega), roundBelow HBW.out HB.out⟩
          · have := HG.out; omega
      · simp only [decide_eq_false hok] at HCUT
        go_wp2_with (go_at_call 125; with_reducible refine (HCUT.out _).mono ?_; rintro e w1 ⟨rfl, hb⟩; have HB := Lib.hid hb; clear hb)
        all_goals
          go_roundg (gk - 1)
          · exact ⟨k + 1, by omega, by have := HG.out; omega, by go_num, by rw [HS.out, if_neg (by omega)]; exact congrArg (Value.int .i64) (by omega), roundBelow HBW.out HB.out⟩
          · have := HG.out; omega
    · have hkn : k = len := by omega
      subst hkn
      go_wp2
      go_ret
      exact ⟨rfl, hbw⟩
end Go.Proofs.YtkjkgpdfhmoenaaDoor.SpSize
namespace Go.Proofs.YtkjkgpdfhmoenaaDoor.SpFind
open Go Go.RowKit Go.Proofs.YtkjkgpdfhmoenaaDoor.Kit Go.Proofs.YtkjkgpdfhmoenaaDoor.SpFns
attribute [local irreducible] wpQuiet

set_option maxRecDepth 100000 in
theorem find1_calls (a : Option Addr) (len cap : Nat) (L H : Nat → Int) (r : Int) (b1 b2 : Nat) (k : Nat) (w : World) (hr : Row w a len L H) (hk : k < len)
    (h1 : w.heap[b1]? = some (.cells #[.slice a len cap] 24 (0, 0))) (h2 : w.heap[b2]? = some (.cells #[.int .i32 r] 21 (0, 0))) :
    Calls Tryd.prog 124 #[.int .i64 k, .pointer (some ⟨b1, 0, none⟩), .pointer (some ⟨b2, 0, none⟩)] w fun e w' =>
      e = .returned (.bool (decide (r ≤ H k))) ∧ Below w.heap.size w w' := by
  obtain ⟨b, off, rfl, hbl, hc⟩ := hr.at hk
  have c1 := (hc k hk).2
  have hi : (k : Int) < len := by omega
  have g1 := cell_at h1 0
  have g2 := cell_at h2 0
  have l1 := lt_of_heap h1
  have l2 := lt_of_heap h2
  simp only [List.getElem?_toArray, List.getElem?_cons_zero] at g1 g2
  clear h1 h2 hc hr
  go_enter Tryd.func124, Tryd.ntmps124
  go_wp2_with fail
  refine region_calm (by kernel_rfl) (by kernel_rfl) ?_
  repeat (quiet_step ((fail)))
  refine wpQuiet_nil ?_
  rintro _ ⟨x, rfl⟩
  go_wp2
  go_ret
  exact ⟨rfl, Later.chain (Below.refl _ _) x⟩

set_option maxRecDepth 100000 in
theorem Search_calls (n R : Nat) (p : Nat → Bool) (b1 b2 : Nat) (w : World) (hn : n ≤ 1000000000000000000) (hR : R ≤ n) (h0 : ∀ k, k < R → p k = false) (h1 : ∀ k, R ≤ k → k < n → p k = true)
    (hf : ∀ k w', k < n → Below w.heap.size w w' → Calls Tryd.prog 124 #[.int .i64 k, .pointer (some ⟨b1, 0, none⟩), .pointer (some ⟨b2, 0, none⟩)] w' fun e w'' => e = .returned (.bool (p k)) ∧ Below w'.heap.size w' w'') :
    Calls Tryd.prog 123 #[.int .i64 n, .func (.func 124) #[] #[.pointer (some ⟨b1, 0, none⟩), .pointer (some ⟨b2, 0, none⟩)]] w fun e w' => e = .returned (.int .i64 R) ∧ Below w.heap.size w w' := by
  have H0 := Lib.hid h0
  have H1 := Lib.hid h1
  have HF := Lib.hid hf
  clear h0 h1 hf
  go_enter Tryd.func123, Tryd.ntmps123
  go_wp2_with fail
  go_loopg [5, 6] n (fun g s5 s6 wr => ∃ i j : Nat, i ≤ R ∧ R ≤ j ∧ j ≤ n ∧ g = j - i ∧ s5 = .int .i64 i ∧ s6 = .int .i64 j ∧ Below w.heap.size w wr)
  case atStart => exact ⟨0, n, Nat.zero_le _, hR, Nat.le_refl _, by omega, rfl, rfl, Below.refl _ _⟩
  case round =>
    obtain ⟨i, j, hi, hj, hjn, hg, rfl, rfl, hbw⟩ := hrel
    have HBW := Lib.hid hbw
    have HG := Lib.hid hg
    clear hg hbw
    by_cases hlt : i < j
    · obtain ⟨m, hm⟩ : ∃ m, m = (i + j) / 2 := ⟨_, rfl⟩
      have hs : IntKind.i64.wrap ((i : Int) + j) = (i : Int) + j := i64w _ (by omega) (by omega)
      have hmI : ((i : Int) + j) / 2 = (m : Int) := by rw [hm]; omega
      have hmi : i ≤ m := by omega
      have hmj : m < j := by omega
      clear hm
      have HMI := Lib.hid hmI
      clear hmI
      have hc := HF.out m wr (by omega) HBW.out
      go_wp2_with fail
      rw [HMI.out]
      cases hp : p m with
      | false =>
        rw [hp] at hc
        refine hc.mono ?_
        clear hc
        rintro e w' ⟨rfl, hb⟩
        have HB := Lib.hid hb
        have hmR : m + 1 ≤ R := by
          rcases Nat.lt_or_ge m R with h | h
          · exact h
          · have := H1.out m h (by omega)
            rw [hp] at this; cases this
        clear hp hb
        go_wp2
        go_roundg (j - (m + 1))
        case measure => have := HG.out; omega
        case rel => exact ⟨m + 1, j, hmR, hj, hjn, rfl, by go_num, rfl, chain HBW.out HB.out⟩
      | true =>
        rw [hp] at hc
        refine hc.mono ?_
        clear hc
        rintro e w' ⟨rfl, hb⟩
        have HB := Lib.hid hb
        have hmR : R ≤ m := by
          rcases Nat.lt_or_ge m R with h | h
          · have := H0.out m h
            rw [hp] at this; cases this
          · exact h
        clear hp hb
        go_wp2
        go_roundg (m - i)
        case measure => have := HG.out; omega
        case rel => exact ⟨i, m, hi, hmR, by omega, rfl, rfl, rfl, chain HBW.out HB.out⟩
    · have hij : i = R := by omega
      subst hij
      go_wp2
      go_ret
      exact ⟨rfl, HBW.out⟩

/-- Spans that rise: from R on each ends at r or behind it, and none before R does. -/
def Cut (H : Nat → Int) (len : Nat) (r : Int) (R : Nat) : Prop := R ≤ len ∧ (∀ k, k < R → H k < r) ∧ ∀ k, R ≤ k → k < len → r ≤ H k

set_option maxRecDepth 100000 in
theorem find_calls (a : Option Addr) (len cap : Nat) (L H : Nat → Int) (r : Int) (R : Nat) (w : World) (hr : Row w a len L H) (hl : len ≤ 1000000000000000000) (hc : Cut H len r R) :
    Calls Tryd.prog 104 #[.slice a len cap, .int .i32 r] w fun e w' => e = .returned (.int .i64 R) ∧ Below w.heap.size w w' := by
  go_enter Tryd.func104, Tryd.ntmps104
  go_wp2_with fail
  generalize hW : World.alloc _ _ = W3
  have hB : Below w.heap.size w W3 := by rw [← hW]; exact ((Below.refl _ _).alloc (Nat.le_refl _) _).alloc (by simp) _
  have h1 : W3.heap[w.heap.size]? = some (.cells #[.slice a len cap] 24 (0, 0)) := by rw [← hW, alloc_old (by simp)]; exact alloc_new rfl
  have h2 : W3.heap[w.heap.size + 1]? = some (.cells #[.int .i32 r] 21 (0, 0)) := by rw [← hW]; exact alloc_new (by simp)
  have hS := Search_calls len R (fun k => decide (r ≤ H k)) w.heap.size (w.heap.size + 1) W3 hl hc.1 (fun k hk => decide_eq_false (by have := hc.2.1 k hk; omega)) (fun k h h' => decide_eq_true (hc.2.2 k h h'))
    (fun k w' hk hb => find1_calls a len cap L H r _ _ k w' ((hr.below hB).below hb) hk (by rw [hb.block _ (lt_of_heap h1)]; exact h1) (by rw [hb.block _ (lt_of_heap h2)]; exact h2))
  refine hS.mono ?_
  rintro e w' ⟨rfl, hb⟩
  have HB := Lib.hid (chain hB hb)
  clear hS hb hB h1 h2 hW hc hr
  go_wp2
  go_ret
  exact ⟨rfl, HB.out⟩

set_option maxRecDepth 100000 in
theorem In_calls (a : Option Addr) (len cap : Nat) (L H : Nat → Int) (r : Int) (R : Nat) (w : World) (hr : Row w a len L H) (hl : len ≤ 1000000000000000000) (hc : Cut H len r R) :
    Calls Tryd.prog 106 #[.slice a len cap, .int .i32 r] w fun e w' => e = .returned (.bool (decide (VR r ∧ R < len ∧ L R ≤ r))) ∧ Below w.heap.size w w' := by
  have HF := Lib.hid (find_calls a len cap L H r R w hr hl hc)
  have HROW := Lib.hid hr
  have hRl := hc.1
  clear hr hc
  by_cases hR : R < len
  · obtain ⟨b, off, rfl, hbl, hcc⟩ := HROW.out.at hR
    have c0 := (hcc R hR).1
    clear hcc
    have hi : (R : Int) < len := by omega
    by_cases hv : VR r
    all_goals
      go_enter Tryd.func106, Tryd.ntmps106
      go_wp2_with (first | (go_at_call 104; with_reducible refine HF.out.mono ?_; rintro e w1 ⟨rfl, hb⟩; have HB := Lib.hid hb; have c1 := (bcell hb).1 b (off + R * 2) hbl; rw [c0] at c1; have hbl1 := Nat.lt_of_lt_of_le hbl hb.size; clear hb) | (go_at_call 103; refine (ValidRune_calls _ _).mono ?_; rintro e w' ⟨rfl, rfl⟩))
      all_goals
        go_ret
        exact ⟨ret_bool (by simp_all), HB.out⟩
  · have hR' : R = len := by omega
    by_cases hv : VR r
    all_goals
      go_enter Tryd.func106, Tryd.ntmps106
      go_wp2_with (first | (go_at_call 104; with_reducible refine HF.out.mono ?_; rintro e w1 ⟨rfl, hb⟩; have HB := Lib.hid hb; clear hb) | (go_at_call 103; refine (ValidRune_calls _ _).mono ?_; rintro e w' ⟨rfl, rfl⟩))
      all_goals
        go_ret
        exact ⟨ret_bool (by simp_all), HB.out⟩

end Go.Proofs.YtkjkgpdfhmoenaaDoor.SpFind
namespace Go.Proofs.YtkjkgpdfhmoenaaDoor.SpKnown
open Go Go.RowKit Go.Proofs.YtkjkgpdfhmoenaaDoor.Kit Go.Proofs.YtkjkgpdfhmoenaaDoor.SpFns

def nth (l : List Int) (i : Nat) : Int := l.getD i 0

theorem Row.two {w : World} {n : Nat} {l0 h0 l1 h1 : Int} {t : TypeId} {fr : Nat × Nat} (h : w.heap[n]? = some (.cells #[.int .i32 l0, .int .i32 h0, .int .i32 l1, .int .i32 h1] t fr)) : Row w (some ⟨n, 0, none⟩) 2 (nth [l0, l1]) (nth [h0, h1]) := by
  refine .inr ⟨n, 0, rfl, lt_of_heap h, fun i hi => ?_⟩
  have hh : i = 0 ∨ i = 1 := by omega
  rcases hh with rfl | rfl
  · exact ⟨cell_at h 0, cell_at h 1⟩
  · exact ⟨cell_at h 2, cell_at h 3⟩
theorem Row.one {w : World} {n : Nat} {l0 h0 : Int} {t : TypeId} {fr : Nat × Nat} (h : w.heap[n]? = some (.cells #[.int .i32 l0, .int .i32 h0] t fr)) : Row w (some ⟨n, 0, none⟩) 1 (nth [l0]) (nth [h0]) := by
  refine .inr ⟨n, 0, rfl, lt_of_heap h, fun i hi => ?_⟩
  have hh : i = 0 := by omega
  subst hh
  exact ⟨cell_at h 0, cell_at h 1⟩

end Go.Proofs.YtkjkgpdfhmoenaaDoor.SpKnown
namespace Go.Proofs.YtkjkgpdfhmoenaaDoor.SpLists
open Go Go.Proofs.YtkjkgpdfhmoenaaDoor.SpFns Go.Proofs.YtkjkgpdfhmoenaaDoor.SpFind Go.Proofs.YtkjkgpdfhmoenaaDoor.SpSize

/-- A right list: runes, rising. -/
def Rt (L H : Nat → Int) (len : Nat) : Prop := ∀ i, i < len → VR (L i) ∧ VR (H i) ∧ L i ≤ H i ∧ (0 < i → H (i - 1) < L i)

theorem bad_zero {L H : Nat → Int} {i : Nat} (h : bad L H i = 0) : VR (L i) ∧ VR (H i) ∧ L i ≤ H i ∧ (0 < i → H (i - 1) < L i) := by
  rcases bad_cases L H i with ⟨hb, q⟩ | ⟨hb, q⟩ | ⟨hb, q⟩ | ⟨hb, q1, q2, q3, q4⟩ | ⟨hb, q⟩ | ⟨hb, q1, q2, q3, q4, q5⟩
  · rw [hb] at h; cases h
  · rw [hb] at h; cases h
  · rw [hb] at h; cases h
  · exact ⟨q1, q2, q3, fun h => by omega⟩
  · rw [hb] at h; cases h
  · exact ⟨q1, q2, q3, fun _ => q5⟩

theorem rt_zero {L H : Nat → Int} : ∀ (n i : Nat), (rt L H n i).2 = 0 → ∀ k, i ≤ k → k < i + n → bad L H k = 0
  | 0, i, _, k, h1, h2 => by omega
  | n + 1, i, h, k, h1, h2 => by
    simp only [rt] at h
    split at h
    · rename_i hb
      rcases Nat.eq_or_lt_of_le h1 with rfl | h3
      · exact hb
      · exact rt_zero n (i + 1) h k h3 (by omega)
    · rename_i hb
      exact absurd h hb

theorem Rt.of {L H : Nat → Int} {len : Nat} (h : (rt L H len 0).2 = 0) : Rt L H len := fun i hi => bad_zero (rt_zero len 0 h i (Nat.zero_le _) (by omega))

theorem Rt.rise {L H : Nat → Int} {len : Nat} (h : Rt L H len) {i : Nat} : ∀ (j : Nat), i < j → j < len → H i < L j
  | 0, hj, _ => by omega
  | j + 1, hj, hl => by
    have h1 := (h (j + 1) hl).2.2.2 (by omega)
    simp only [Nat.add_sub_cancel] at h1
    rcases Nat.eq_or_lt_of_le (Nat.le_of_lt_succ hj) with rfl | h2
    · exact h1
    · have h3 := h.rise j h2 (by omega)
      have h4 := (h j (by omega)).2.2.1
      omega

theorem vr_bounds {r : Int} (h : VR r) : 0 ≤ r ∧ r ≤ 1114111 := by
  have := (vr_iff r).1 h
  omega

theorem Rt.low {L H : Nat → Int} {len : Nat} (h : Rt L H len) : ∀ (i : Nat), i < len → (i : Int) ≤ L i
  | 0, hi => (vr_bounds (h 0 hi).1).1
  | i + 1, hi => by
    have h1 := h.rise (i := i) (i + 1) (by omega) hi
    have h2 := (h i (by omega)).2.2.1
    have h3 := h.low i (by omega)
    omega

theorem Rt.len_le {L H : Nat → Int} {len : Nat} (h : Rt L H len) : len ≤ 1114112 := by
  rcases Nat.eq_zero_or_pos len with h0 | h0
  · omega
  · have h1 := h.low (len - 1) (by omega)
    have h2 := vr_bounds (h (len - 1) (by omega)).1
    omega

theorem Rt.cut {L H : Nat → Int} (r : Int) : ∀ (len : Nat), Rt L H len → ∃ R, Cut H len r R
  | 0, _ => ⟨0, Nat.le_refl _, fun k hk => by omega, fun k _ hk => by omega⟩
  | n + 1, h => by
    obtain ⟨R, h1, h2, h3⟩ := Rt.cut r n (fun i hi => h i (by omega))
    rcases Nat.lt_or_ge R n with hR | hR
    · refine ⟨R, by omega, h2, fun k hk hk2 => ?_⟩
      rcases Nat.lt_or_ge k n with h4 | h4
      · exact h3 k hk h4
      · have hkn : k = n := by omega
        subst hkn
        have h5 := h.rise (i := R) k hR (by omega)
        have h6 := h3 R (Nat.le_refl _) hR
        have h7 := (h k (by omega)).2.2.1
        omega
    · have hRn : R = n := by omega
      subst hRn
      by_cases hr : r ≤ H R
      · exact ⟨R, by omega, h2, fun k hk hk2 => by have : k = R := by omega
                                                   subst this; exact hr⟩
      · refine ⟨R + 1, Nat.le_refl _, fun k hk => ?_, fun k hk hk2 => by omega⟩
        rcases Nat.lt_or_ge k R with h4 | h4
        · exact h2 k h4
        · have : k = R := by omega
          subst this
          omega

/-- The reference's size of a span. -/
def rsz (l h : Int) : Int := h - l + 1 - (if l < 55296 ∧ 57343 < h then 2048 else 0)
theorem sz_eq {l h : Int} (h1 : VR l) (h2 : VR h) (h3 : l ≤ h) : sz l h = rsz l h := by
  have g1 := (vr_iff l).1 h1
  have g2 := (vr_iff h).1 h2
  unfold sz rsz
  rw [if_pos (by omega)]
  split <;> omega

theorem sz_pos {l h : Int} (h1 : VR l) (h2 : VR h) (h3 : l ≤ h) : 0 < sz l h := by
  have g1 := (vr_iff l).1 h1
  have g2 := (vr_iff h).1 h2
  rw [sz_eq h1 h2 h3]
  unfold rsz
  split <;> omega

/-- The first i that p says yes to. -/
def fr (p : Nat → Bool) : Nat → Nat → Int × Bool
  | 0, _ => (0, false)
  | n + 1, i => if p i = true then (i, true) else fr p n (i + 1)

theorem fr_hit {p : Nat → Bool} {len k : Nat} {R : Int × Bool} (h : fr p (len - k) k = R) (hlt : k < len) (hp : p k = true) : R = ((k : Int), true) := by
  rw [← h, show len - k = (len - k - 1) + 1 by omega]
  simp [fr, hp]
theorem fr_on {p : Nat → Bool} {len k : Nat} {R : Int × Bool} (h : fr p (len - k) k = R) (hlt : k < len) (hp : p k = false) : fr p (len - (k + 1)) (k + 1) = R := by
  rw [← h, show len - k = (len - (k + 1)) + 1 by omega]
  simp [fr, hp]
theorem fr_end {p : Nat → Bool} {len : Nat} {R : Int × Bool} (h : fr p (len - len) len = R) : R = (0, false) := by
  rw [← h, Nat.sub_self]; rfl

/-- Span i of one list has a number in common with the other list. -/
def hit (L H L' H' : Nat → Int) (len' i : Nat) : Bool := decide (∃ j, j < len' ∧ L i ≤ H' j ∧ L' j ≤ H i)

theorem hit_cut {L H L' H' : Nat → Int} {len' i R : Nat} (h : Rt L' H' len') (hc : Cut H' len' (L i) R) : hit L H L' H' len' i = decide (R < len' ∧ L' R ≤ H i) := by
  unfold hit
  apply decide_eq_decide.2
  constructor
  · rintro ⟨j, hj, h1, h2⟩
    have hRj : R ≤ j := by
      rcases Nat.lt_or_ge j R with h3 | h3
      · have := hc.2.1 j h3
        omega
      · exact h3
    refine ⟨by omega, ?_⟩
    rcases Nat.eq_or_lt_of_le hRj with h3 | h3
    · rw [h3]; exact h2
    · have h4 := h.rise (i := R) j h3 hj
      have h5 := (h R (by omega)).2.2.1
      omega
  · rintro ⟨h1, h2⟩
    exact ⟨R, h1, hc.2.2 R (Nat.le_refl _) h1, h2⟩
end Go.Proofs.YtkjkgpdfhmoenaaDoor.SpLists
namespace Go.Proofs.YtkjkgpdfhmoenaaDoor.SpRef
open Go Go.RowKit Go.Proofs.YtkjkgpdfhmoenaaDoor.Kit Go.Proofs.YtkjkgpdfhmoenaaDoor.SpFns Go.Proofs.YtkjkgpdfhmoenaaDoor.SpFind Go.Proofs.YtkjkgpdfhmoenaaDoor.SpSize Go.Proofs.YtkjkgpdfhmoenaaDoor.SpLists
attribute [local irreducible] wpQuiet

def InD (L H : Nat → Int) (len : Nat) (r : Int) : Bool := decide (VR r ∧ ∃ i, i < len ∧ L i ≤ r ∧ r ≤ H i)

theorem InD_hit {L H : Nat → Int} {len k : Nat} {r : Int} (hk : k < len) (h1 : L k ≤ r) (h2 : r ≤ H k) : decide (VR r) = InD L H len r :=
  decide_eq_decide.2 ⟨fun h => ⟨h, k, hk, h1, h2⟩, fun h => h.1⟩
theorem InD_no {L H : Nat → Int} {len : Nat} {r : Int} (h : ∀ i, i < len → ¬ (L i ≤ r ∧ r ≤ H i)) : false = InD L H len r :=
  (decide_eq_false (fun ⟨_, i, hi, h1⟩ => h i hi h1)).symm
theorem InD_cut {L H : Nat → Int} {len R : Nat} {r : Int} (h : Rt L H len) (hc : Cut H len r R) : decide (VR r ∧ R < len ∧ L R ≤ r) = InD L H len r := by
  have h1 := hit_cut (L := fun _ => r) (H := fun _ => r) (i := 0) h hc
  unfold hit at h1
  have h2 := decide_eq_decide.1 h1
  exact decide_eq_decide.2 ⟨fun ⟨a, b⟩ => ⟨a, (h2.2 b).imp fun j hj => ⟨hj.1, hj.2.2, hj.2.1⟩⟩, fun ⟨a, b⟩ => ⟨a, h2.1 (b.imp fun j hj => ⟨hj.1, hj.2.2, hj.2.1⟩)⟩⟩

set_option maxRecDepth 100000 in
theorem refIn_calls (a : Option Addr) (len cap : Nat) (L H : Nat → Int) (r : Int) (w : World) (hr : Row w a len L H) (hl : len ≤ 1000000000000000000) :
    Calls Tryd.prog 91 #[.slice a len cap, .int .i32 r] w fun e w' => e = .returned (.bool (InD L H len r)) ∧ w = w' := by
  have HR := Lib.hid hr
  clear hr
  go_enter Tryd.func91, Tryd.ntmps91
  go_wp2_with fail
  go_loopg [5] len (fun g i wr => ∃ k : Nat, k ≤ len ∧ g = len - k ∧ i = .int .i64 k ∧ w = wr ∧ ∀ i, i < k → ¬ (L i ≤ r ∧ r ≤ H i))
  case atStart => exact ⟨0, Nat.zero_le _, by omega, rfl, rfl, fun i hi => by omega⟩
  case round =>
    obtain ⟨k, hk, hg, rfl, rfl, hno⟩ := hrel
    have HG := Lib.hid hg
    have HN := Lib.hid hno
    clear hg hno
    by_cases hlt : k < len
    · obtain ⟨b, off, rfl, hbl, hc⟩ := HR.out.at hlt
      have c0 := (hc k hlt).1
      have c1 := (hc k hlt).2
      have hi : (k : Int) < len := by omega
      clear hc
      by_cases h1 : L k ≤ r
      · by_cases h2 : r ≤ H k
        · go_wp2_with (go_at_call 107; refine (Rune_calls _ _).mono ?_; rintro e w' ⟨rfl, rfl⟩)
          go_ret
          exact ⟨ret_bool (InD_hit hlt h1 h2), rfl⟩
        · go_wp2_with fail
          go_roundg (gk - 1)
          case measure => have := HG.out; omega
          case rel =>
            refine ⟨k + 1, by omega, by have := HG.out; omega, by go_num, rfl, fun i hi => ?_⟩
            rcases Nat.lt_or_ge i k with h | h
            · exact HN.out i h
            · have : i = k := by omega
              subst this
              omega
      · go_wp2_with fail
        go_roundg (gk - 1)
        case measure => have := HG.out; omega
        case rel =>
          refine ⟨k + 1, by omega, by have := HG.out; omega, by go_num, rfl, fun i hi => ?_⟩
          rcases Nat.lt_or_ge i k with h | h
          · exact HN.out i h
          · have : i = k := by omega
            subst this
            omega
    · have hkn : k = len := by omega
      subst hkn
      go_wp2
      go_ret
      exact ⟨ret_bool (InD_no HN.out), rfl⟩
end Go.Proofs.YtkjkgpdfhmoenaaDoor.SpRef
