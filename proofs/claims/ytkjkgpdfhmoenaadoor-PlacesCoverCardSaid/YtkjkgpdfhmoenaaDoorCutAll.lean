/-
  cut.sort, cut.short, cut.next. cut.All: the pre-tokens, one behind the other; the iterator hands them out. Pre-tokens: cut anew from where one ends. cut.Tokens. The pre-tokens of a text are its parts, in plain Lean: the items of a part; what kinds they are of.
-/
import Derived.Test.YtkjkgpdfhmoenaaDoorCutRun
import Derived.Test.YtkjkgpdfhmoenaaDoorCollect
namespace Go.Proofs.YtkjkgpdfhmoenaaDoor.CutNext
open Go Go.RowKit Go.Proofs.YtkjkgpdfhmoenaaDoor.Kit Go.Proofs.YtkjkgpdfhmoenaaDoor.Range Go.Proofs.YtkjkgpdfhmoenaaDoor.Round Go.Proofs.YtkjkgpdfhmoenaaDoor.Utf Go.Proofs.YtkjkgpdfhmoenaaDoor.It Go.Proofs.YtkjkgpdfhmoenaaDoor.ItGo Go.Proofs.YtkjkgpdfhmoenaaDoor.Dt Go.Proofs.YtkjkgpdfhmoenaaDoor.Mo Go.Proofs.YtkjkgpdfhmoenaaDoor.MoNew Go.Proofs.YtkjkgpdfhmoenaaDoor.Cu Go.Proofs.YtkjkgpdfhmoenaaDoor.CutRun
attribute [local irreducible] wpQuiet

/-! ### The seven Shorts -/
def wd : Nat → List UInt8
  | 0 => [39, 115] | 1 => [39, 116] | 2 => [39, 109] | 3 => [39, 100] | 4 => [39, 114, 101] | 5 => [39, 118, 101] | _ => [39, 108, 108]
theorem pre2 (a b : UInt8) (l : List UInt8) : [a, b].isPrefixOf l = true ↔ 1 < l.length ∧ by' l 0 = a.toNat ∧ by' l 1 = b.toNat := by
  match l with
  | [] => simp
  | [x] => simp [by']
  | x :: y :: l =>
    simp only [List.isPrefixOf, Bool.and_eq_true, beq_iff_eq, by', List.getD_cons_zero, List.getD_cons_succ, List.length_cons, and_true]
    constructor
    · rintro ⟨rfl, rfl⟩; exact ⟨by omega, rfl, rfl⟩
    · rintro ⟨_, h1, h2⟩; exact ⟨UInt8.toNat_inj.1 h1.symm, UInt8.toNat_inj.1 h2.symm⟩
theorem pre3 (a b c : UInt8) (l : List UInt8) : [a, b, c].isPrefixOf l = true ↔ 2 < l.length ∧ by' l 0 = a.toNat ∧ by' l 1 = b.toNat ∧ by' l 2 = c.toNat := by
  match l with
  | [] => simp
  | [x] => simp
  | [x, y] => simp
  | x :: y :: z :: l =>
    simp only [List.isPrefixOf, Bool.and_eq_true, beq_iff_eq, by', List.getD_cons_zero, List.getD_cons_succ, List.length_cons, and_true]
    constructor
    · rintro ⟨rfl, rfl, rfl⟩; exact ⟨by omega, rfl, rfl, rfl⟩
    · rintro ⟨_, h1, h2, h3⟩; exact ⟨UInt8.toNat_inj.1 h1.symm, UInt8.toNat_inj.1 h2.symm, UInt8.toNat_inj.1 h3.symm⟩
theorem short_hit {l : List UInt8} {k : Nat} (hk : k < 7) (h : (wd k).isPrefixOf l = true) : shortB l = (wd k).length := by
  unfold shortB
  match k, hk with
  | 0, _ => rw [show wd 0 = [39, 115] from rfl, pre2] at h; obtain ⟨h1, h2, h3⟩ := h; rw [if_neg (by rw [h2]; simp; omega), if_pos (.inl h3)]; rfl
  | 1, _ => rw [show wd 1 = [39, 116] from rfl, pre2] at h; obtain ⟨h1, h2, h3⟩ := h; rw [if_neg (by rw [h2]; simp; omega), if_pos (.inr (.inl h3))]; rfl
  | 2, _ => rw [show wd 2 = [39, 109] from rfl, pre2] at h; obtain ⟨h1, h2, h3⟩ := h; rw [if_neg (by rw [h2]; simp; omega), if_pos (.inr (.inr (.inl h3)))]; rfl
  | 3, _ => rw [show wd 3 = [39, 100] from rfl, pre2] at h; obtain ⟨h1, h2, h3⟩ := h; rw [if_neg (by rw [h2]; simp; omega), if_pos (.inr (.inr (.inr h3)))]; rfl
  | 4, _ => rw [show wd 4 = [39, 114, 101] from rfl, pre3] at h; obtain ⟨h1, h2, h3, h4⟩ := h; rw [if_neg (by rw [h2]; simp; omega), if_neg (by rw [h3]; decide), if_pos ⟨h1, .inl ⟨h3, h4⟩⟩]; rfl
  | 5, _ => rw [show wd 5 = [39, 118, 101] from rfl, pre3] at h; obtain ⟨h1, h2, h3, h4⟩ := h; rw [if_neg (by rw [h2]; simp; omega), if_neg (by rw [h3]; decide), if_pos ⟨h1, .inr (.inl ⟨h3, h4⟩)⟩]; rfl
  | 6, _ => rw [show wd 6 = [39, 108, 108] from rfl, pre3] at h; obtain ⟨h1, h2, h3, h4⟩ := h; rw [if_neg (by rw [h2]; simp; omega), if_neg (by rw [h3]; decide), if_pos ⟨h1, .inr (.inr ⟨h3, h4⟩)⟩]; rfl
theorem short_none {l : List UInt8} (h : ∀ k, k < 7 → (wd k).isPrefixOf l = false) : shortB l = 0 := by
  have g : ∀ k, k < 7 → ¬ (wd k).isPrefixOf l = true := fun k hk => by rw [h k hk]; simp
  have g0 := g 0 (by decide); have g1 := g 1 (by decide); have g2 := g 2 (by decide); have g3 := g 3 (by decide); have g4 := g 4 (by decide); have g5 := g 5 (by decide); have g6 := g 6 (by decide)
  rw [show wd 0 = [39, 115] from rfl, pre2] at g0
  rw [show wd 1 = [39, 116] from rfl, pre2] at g1
  rw [show wd 2 = [39, 109] from rfl, pre2] at g2
  rw [show wd 3 = [39, 100] from rfl, pre2] at g3
  rw [show wd 4 = [39, 114, 101] from rfl, pre3] at g4
  rw [show wd 5 = [39, 118, 101] from rfl, pre3] at g5
  rw [show wd 6 = [39, 108, 108] from rfl, pre3] at g6
  simp at g0 g1 g2 g3 g4 g5 g6
  unfold shortB
  split
  · rfl
  · rename_i h1
    rw [not_or, Decidable.not_not] at h1
    rw [if_neg, if_neg]
    · rintro ⟨h2, h3⟩; omega
    · rintro h2; omega
theorem wd_len (k : Nat) : (wd k).length = 2 ∨ (wd k).length = 3 := by
  unfold wd
  split <;> simp

set_option maxRecDepth 100000 in
theorem sort_calls (k : Int) (w : World) : Calls Tryd.prog 96 #[.int .i64 k] w fun e w' => e = .returned (.int .i64 (sortOf k)) ∧ w = w' := by
  unfold sortOf
  by_cases h1 : k = 1
  · subst h1
    go_enter Tryd.func96, Tryd.ntmps96
    go_wp2
    go_ret
    exact ⟨rfl, rfl⟩
  · have e1 : (k == 1) = false := by simp [h1]
    by_cases h2 : k = 2
    · subst h2
      go_enter Tryd.func96, Tryd.ntmps96
      go_wp2
      go_ret
      exact ⟨rfl, rfl⟩
    · have e2 : (k == 2) = false := by simp [h2]
      rw [if_neg h1, if_neg h2]
      clear h1 h2
      go_enter Tryd.func96, Tryd.ntmps96
      go_wp2
      go_ret
      exact ⟨rfl, rfl⟩

def wv (k : Nat) : ByteArray := ⟨(wd k).toArray⟩
theorem wv_list (k : Nat) : (wv k).data.toList = wd k := rfl
theorem wv_size (k : Nat) : (wv k).size = (wd k).length := rfl

set_option maxHeartbeats 1000000 in
set_option maxRecDepth 100000 in
theorem short_calls (s : ByteArray) (w : World) : Calls Tryd.prog 94 #[.string s] w fun e w' => e = .returned (.int .i64 (shortB s.data.toList)) ∧ Below w.heap.size w w' := by
  obtain ⟨W1, hW1⟩ : ∃ Xz, w.alloc (.cells #[.string { data := #[39, 115] }, .string { data := #[39, 116] }, .string { data := #[39, 109] }, .string { data := #[39, 100] }, .string { data := #[39, 114, 101] }, .string { data := #[39, 118, 101] }, .string { data := #[39, 108, 108] }] 9) = Xz := ⟨_, rfl⟩
  obtain ⟨b, hb⟩ : ∃ xz, w.heap.size = xz := ⟨_, rfl⟩
  have hb1 : Below w.heap.size w W1 := by rw [← hW1]; exact (Below.refl _ _).alloc (Nat.le_refl _) _
  have H := Lib.hid (by rw [← hW1, ← hb]; exact alloc_new rfl : W1.heap[b]? = some (.cells #[.string { data := #[39, 115] }, .string { data := #[39, 116] }, .string { data := #[39, 109] }, .string { data := #[39, 100] }, .string { data := #[39, 114, 101] }, .string { data := #[39, 118, 101] }, .string { data := #[39, 108, 108] }] 9 (0, 0)))
  have EW1 := Lib.hid hW1
  have Eb := Lib.hid hb
  clear hW1 hb
  have HB := Lib.hid hb1
  have hc : ∀ k, k < 7 → W1.cell? ⟨b, k, none⟩ = some (.string (wv k)) := fun k hk => by
    rw [cell_at H.out]
    match k, hk with
    | 0, _ => rfl
    | 1, _ => rfl
    | 2, _ => rfl
    | 3, _ => rfl
    | 4, _ => rfl
    | 5, _ => rfl
    | 6, _ => rfl
  have HC := Lib.hid hc
  have hz := lt_of_heap H.out
  clear hc hb1
  go_enter Tryd.func94, Tryd.ntmps94
  go_upto_region 2 with fail
  rw [EW1.out, Eb.out]
  clear EW1 Eb
  go_loopg [7] 7 (fun g s7 wr => ∃ k : Nat, k ≤ 7 ∧ g = 7 - k ∧ s7 = .int .i64 k ∧ Below W1.heap.size W1 wr ∧ ∀ j, j < k → (wd j).isPrefixOf s.data.toList = false)
  case atStart => exact ⟨0, by omega, by omega, rfl, Below.refl _ _, fun j hj => by omega⟩
  case round =>
    obtain ⟨k, hk, hg, rfl, hb, hno⟩ := hrel
    have HG := Lib.hid hg
    have HNO := Lib.hid hno
    have HBR := Lib.hid hb
    clear hg hno
    by_cases hlt : k < 7
    · have hlti : (k : Int) < 7 := by omega
      have hk0 : (wr.cell? ⟨b, k, none⟩) = some (.string (wv k)) := (hb.cell (p := ⟨b, k, none⟩) hz).trans (HC.out k hlt)
      have hsl : s.data.toList = s.data.toList := rfl
      have HP := Lib.hid (fun w => Shelf.strings_HasPrefix s (wv k) w)
      unfold Lib.hasPrefix at HP
      rw [wv_list] at HP
      have HH := Lib.hid (fun h => short_hit (l := s.data.toList) hlt h)
      have hzk := wv_size k
      obtain ⟨vk, hvk⟩ : ∃ z, wv k = z := ⟨_, rfl⟩
      rw [hvk] at hk0 HP hzk
      obtain ⟨p, hp⟩ : ∃ p, (wd k).isPrefixOf s.data.toList = p := ⟨_, rfl⟩
      rw [hp] at HP HH
      have HPP := Lib.hid hp
      have HZ := Lib.hid hzk
      clear hb hsl hvk hp hzk
      go_wp2_with fail
      refine (HP.out wr).mono ?_
      rintro e w' ⟨rfl, rfl⟩
      cases p with
      | true =>
        go_wp2_with fail
        go_ret
        exact ⟨ret_int (by rw [HZ.out, HH.out trivial]), chain HB.out HBR.out⟩
      | false =>
        go_wp2_with fail
        go_roundg (7 - (k + 1))
        case measure => have := HG.out; omega
        case rel => exact ⟨k + 1, by omega, rfl, by go_num, HBR.out, fun j hj => (Nat.lt_or_ge j k).elim (HNO.out j) (fun h => by rw [show j = k by omega]; exact HPP.out)⟩
    · have hk7 : k = 7 := by omega
      subst hk7
      go_wp2_with fail
      go_ret
      exact ⟨ret_int (by rw [short_none HNO.out]; rfl), chain HB.out HBR.out⟩

set_option maxHeartbeats 1000000 in
set_option maxRecDepth 100000 in
theorem next_calls (D : Dt) (mb : Nat) (s : ByteArray) (w : World) (h : Mod w mb D) (hT : Tabs w) (hl : s.size ≤ 140737488355328) (hs : 0 < s.size) :
    Calls Tryd.prog 73 #[.pointer (some ⟨mb, 0, none⟩), .string s] w fun e w' => e = .returned (.tuple #[.int .i64 (nextB D s.data.toList).1, .int .i64 (nextB D s.data.toList).2]) ∧ Below w.heap.size w w' := by
  have HM := Lib.hid h
  have HT := Lib.hid hT
  have hsz := size_list s
  have hne : s.data.toList ≠ [] := by
    intro h
    rw [h] at hsz
    simp at hsz
    omega
  have HS := Lib.hid (short_calls s w)
  have HR := Lib.hid (fun W (hb : Below w.heap.size w W) => run_calls D mb s W (h.below hb) (hT.below hb) hl)
  have HR1 := Lib.hid (fun W (hb : Below w.heap.size w W) => run_calls D mb (s.extract 1 s.size) W (h.below hb) (hT.below hb) (by simp; omega))
  rw [drop_list s 1 s.size rfl] at HR1
  obtain ⟨x0, hx0⟩ : ∃ x0, s.get! 0 = x0 := ⟨_, rfl⟩
  have hs0 : s[0]'hs = x0 := by rw [← hx0]; exact (Utf8W.get!_of_lt s 0 hs).symm
  have hy0 : x0.toNat = by' s.data.toList 0 := by rw [← hx0]; exact get_by s 0 hs
  have hbl := runB_le D s.data.toList
  have hbg := runB_last (D := D) hne
  have hb1 := runB_le D (s.data.toList.drop 1)
  rw [List.length_drop] at hb1
  rw [hsz] at hbl hb1
  have HNX := Lib.hid (rfl : nextB D s.data.toList = nextB D s.data.toList)
  have hnx : nextB D s.data.toList = if shortB s.data.toList ≠ 0 then (shortB s.data.toList, 1) else if headK D s.data.toList ≠ 3 then (runB D s.data.toList, sortOf (headK D s.data.toList)) else if by' s.data.toList 0 = 32 ∧ runB D s.data.toList = 1 ∧ 1 < s.size then (1 + runB D (s.data.toList.drop 1), sortOf (headK D (s.data.toList.drop 1))) else if runB D s.data.toList < s.size ∧ lastB D s.data.toList < runB D s.data.toList then (runB D s.data.toList - lastB D s.data.toList, 5) else (runB D s.data.toList, 5) := by
    rw [← hsz]; rfl
  obtain ⟨N, hN⟩ : ∃ N, nextB D s.data.toList = N := ⟨_, rfl⟩
  rw [hN] at hnx ⊢
  obtain ⟨sh, hsh⟩ : ∃ z, shortB s.data.toList = z := ⟨_, rfl⟩
  obtain ⟨rb, hrb⟩ : ∃ z, runB D s.data.toList = z := ⟨_, rfl⟩
  obtain ⟨la, hla⟩ : ∃ z, lastB D s.data.toList = z := ⟨_, rfl⟩
  obtain ⟨hk, hhk⟩ : ∃ z, headK D s.data.toList = z := ⟨_, rfl⟩
  obtain ⟨r1, hr1⟩ : ∃ z, runB D (s.data.toList.drop 1) = z := ⟨_, rfl⟩
  obtain ⟨h1, hh1⟩ : ∃ z, headK D (s.data.toList.drop 1) = z := ⟨_, rfl⟩
  rw [hsh] at HS hnx
  rw [hrb, hla, hhk] at HR
  rw [hrb, hla, hhk, hr1, hh1, ← hy0] at hnx
  rw [hrb] at hbl hbg
  rw [hla] at hbg
  rw [hr1] at hb1
  rw [hr1, hh1] at HR1
  have hsz8 : (s.size : Int) ≤ 140737488355328 := by omega
  have HBS := Lib.hid (And.intro hbl (And.intro hbg hb1))
  clear hsz hne hx0 hy0 hN hsh hrb hla hhk hr1 hh1 h hT HNX hbl hbg hb1
  go_enter Tryd.func73, Tryd.ntmps73
  go_wp2_with fail
  refine HS.out.mono ?_
  rintro e W1 ⟨rfl, hB1⟩
  have HB := Lib.hid hB1
  clear hB1
  by_cases c1 : sh ≠ 0
  · rw [if_pos c1] at hnx
    have c1' : (0 : Int) < sh := by omega
    have HNX := Lib.hid hnx
    clear hnx
    go_wp2_with fail
    refine bodyPost_ret (v := .tuple #[.int .i64 sh, .int .i64 1]) (by simp [results, Tryd.results73, go_sem, *]) rfl (⟨by rw [HNX.out]; rfl, HB.out⟩)
  rw [if_neg c1] at hnx
  have c1' : ¬ ((0 : Int) < sh) := by omega
  go_wp2_with fail
  refine (HR.out W1 HB.out).mono ?_
  rintro e W2 ⟨rfl, hB2⟩
  have HB := Lib.hid (chain HB.out hB2)
  clear hB2 c1
  by_cases c2 : hk ≠ 3
  · rw [if_pos c2] at hnx
    have c2' : (hk != 3) = true := by simpa using c2
    have HNX := Lib.hid hnx
    clear hnx c2
    go_wp2_with fail
    refine (sort_calls hk W2).mono ?_
    rintro e w' ⟨rfl, rfl⟩
    go_wp2_with fail
    refine bodyPost_ret (v := .tuple #[.int .i64 rb, .int .i64 (sortOf hk)]) (by simp [results, Tryd.results73, go_sem, *]) rfl (⟨by rw [HNX.out], HB.out⟩)
  rw [if_neg c2] at hnx
  have c2' : (hk != 3) = false := by simpa using c2
  clear c2
  by_cases c3 : x0.toNat = 32 ∧ rb = 1 ∧ 1 < s.size
  · rw [if_pos c3] at hnx
    obtain ⟨c3, c4, c5⟩ := c3
    have c3' : ((x0.toNat : Int) == 32) = true := by simp [c3]
    have c5' : (1 : Int) < s.size := by omega
    have HNX := Lib.hid hnx
    subst c4
    have hw : IntKind.i64.wrap (1 + (r1 : Int)) = 1 + (r1 : Int) := i64w _ (by omega) (by have := HBS.out.2.2; omega)
    have H3 := Lib.hid (And.intro c3 c5)
    clear hnx c3 c5
    go_wp2_with fail
    refine (HR1.out W2 HB.out).mono ?_
    rintro e W3 ⟨rfl, hB3⟩
    have HB := Lib.hid (chain HB.out hB3)
    clear hB3
    go_wp2_with fail
    refine (sort_calls h1 W3).mono ?_
    rintro e w' ⟨rfl, rfl⟩
    go_wp2_with fail
    refine bodyPost_ret (v := .tuple #[.int .i64 (1 + (r1 : Int)), .int .i64 (sortOf h1)]) (by simp [results, Tryd.results73, go_sem, *]) rfl (⟨by rw [HNX.out]; simp, HB.out⟩)
  rw [if_neg c3] at hnx
  have e3 : ((x0.toNat : Int) == 32) = decide (x0.toNat = 32) := by
    by_cases h : x0.toNat = 32
    · simp [h]
    · simp only [h, decide_false, beq_eq_false_iff_ne]; omega
  have HC3 := Lib.hid c3
  have fin : ∀ b, Below w.heap.size w b → N = N := fun _ _ => rfl
  by_cases d1 : x0.toNat = 32
  · by_cases d2 : rb = 1
    · have d3 : ¬ ((1 : Int) < s.size) := by omega
      have d1' : ((x0.toNat : Int) == 32) = true := by simp [d1]
      have d2' : ((rb : Int) == 1) = true := by simp [d2]
      have f2 : ¬ ((rb : Int) < s.size) := by omega
      rw [if_neg (by omega)] at hnx
      have HNX := Lib.hid hnx
      clear e3 d1 d2 c3 fin hnx
      go_wp2_with fail
      refine bodyPost_ret (v := .tuple #[.int .i64 (rb : Int), .int .i64 5]) (by simp [results, Tryd.results73, go_sem, *]) rfl (⟨by rw [HNX.out]; rfl, HB.out⟩)
    · have d1' : ((x0.toNat : Int) == 32) = true := by simp [d1]
      have d2' : ((rb : Int) == 1) = false := by simp; omega
      clear e3 d1 d2 c3 fin
      by_cases f1 : rb < s.size ∧ la < rb
      · rw [if_pos f1] at hnx
        have f2 : (rb : Int) < s.size := by omega
        have f3 : (la : Int) < rb := by omega
        have hw : IntKind.i64.wrap ((rb : Int) - la) = (rb : Int) - la := i64w _ (by omega) (by omega)
        have hq : ((rb - la : Nat) : Int) = (rb : Int) - la := by omega
        have HQ := Lib.hid hq
        have HNX := Lib.hid hnx
        clear hnx f1 hq
        go_wp2_with fail
        refine bodyPost_ret (v := .tuple #[.int .i64 ((rb : Int) - la), .int .i64 5]) (by simp [results, Tryd.results73, go_sem, *]) rfl (⟨by rw [HNX.out, ← HQ.out]; rfl, HB.out⟩)
      · rw [if_neg f1] at hnx
        have HNX := Lib.hid hnx
        clear hnx
        by_cases f2 : (rb : Int) < s.size
        · have f3 : ¬ ((la : Int) < rb) := by omega
          clear f1
          go_wp2_with fail
          refine bodyPost_ret (v := .tuple #[.int .i64 (rb : Int), .int .i64 5]) (by simp [results, Tryd.results73, go_sem, *]) rfl (⟨by rw [HNX.out]; rfl, HB.out⟩)
        · clear f1
          go_wp2_with fail
          refine bodyPost_ret (v := .tuple #[.int .i64 (rb : Int), .int .i64 5]) (by simp [results, Tryd.results73, go_sem, *]) rfl (⟨by rw [HNX.out]; rfl, HB.out⟩)
  · have d1' : ((x0.toNat : Int) == 32) = false := by simp; omega
    clear e3 d1 c3 fin
    by_cases f1 : rb < s.size ∧ la < rb
    · rw [if_pos f1] at hnx
      have f2 : (rb : Int) < s.size := by omega
      have f3 : (la : Int) < rb := by omega
      have hw : IntKind.i64.wrap ((rb : Int) - la) = (rb : Int) - la := i64w _ (by omega) (by omega)
      have hq : ((rb - la : Nat) : Int) = (rb : Int) - la := by omega
      have HQ := Lib.hid hq
      have HNX := Lib.hid hnx
      clear hnx f1 hq
      go_wp2_with fail
      refine bodyPost_ret (v := .tuple #[.int .i64 ((rb : Int) - la), .int .i64 5]) (by simp [results, Tryd.results73, go_sem, *]) rfl (⟨by rw [HNX.out, ← HQ.out]; rfl, HB.out⟩)
    · rw [if_neg f1] at hnx
      have HNX := Lib.hid hnx
      clear hnx
      by_cases f2 : (rb : Int) < s.size
      · have f3 : ¬ ((la : Int) < rb) := by omega
        clear f1
        go_wp2_with fail
        refine bodyPost_ret (v := .tuple #[.int .i64 (rb : Int), .int .i64 5]) (by simp [results, Tryd.results73, go_sem, *]) rfl (⟨by rw [HNX.out]; rfl, HB.out⟩)
      · clear f1
        go_wp2_with fail
        refine bodyPost_ret (v := .tuple #[.int .i64 (rb : Int), .int .i64 5]) (by simp [results, Tryd.results73, go_sem, *]) rfl (⟨by rw [HNX.out]; rfl, HB.out⟩)
end Go.Proofs.YtkjkgpdfhmoenaaDoor.CutNext
namespace Go.Proofs.YtkjkgpdfhmoenaaDoor.CutAll
open Go Go.RowKit Go.Proofs.YtkjkgpdfhmoenaaDoor.Kit Go.Proofs.YtkjkgpdfhmoenaaDoor.Range Go.Proofs.YtkjkgpdfhmoenaaDoor.Round Go.Proofs.YtkjkgpdfhmoenaaDoor.Utf Go.Proofs.YtkjkgpdfhmoenaaDoor.It Go.Proofs.YtkjkgpdfhmoenaaDoor.ItGo Go.Proofs.YtkjkgpdfhmoenaaDoor.Dt Go.Proofs.YtkjkgpdfhmoenaaDoor.Mo Go.Proofs.YtkjkgpdfhmoenaaDoor.MoNew Go.Proofs.YtkjkgpdfhmoenaaDoor.Cu Go.Proofs.YtkjkgpdfhmoenaaDoor.CutRun Go.Proofs.YtkjkgpdfhmoenaaDoor.CutNext
attribute [local irreducible] wpQuiet

/-- A text's pre-tokens, from place a on. -/
def toks (D : Dt) (a : Nat) (l : List UInt8) : List Tk := (ofI D (items a l) true).1
theorem toks_nil (D : Dt) (a : Nat) : toks D a [] = [] := rfl
theorem toks_cons {D : Dt} (hg : Good.Good D) (a : Nat) {l : List UInt8} (h : l ≠ []) :
    toks D a l = ⟨a, a + (nextB D l).1, (nextB D l).2⟩ :: toks D (a + (nextB D l).1) (l.drop (nextB D l).1) ∧ 0 < (nextB D l).1 ∧ (nextB D l).1 ≤ l.length ∧ 1 ≤ (nextB D l).2 ∧ (nextB D l).2 ≤ 5 := by
  obtain ⟨n, h1, h2, h3, h4, h5, h6⟩ := next_eq hg a h
  have hs := sum_eq a n l
  have h7 : n ≤ sum ((items a l).take n) := sum_le_take (fun _ h => items_pos h) n h3
  have h8 := sum_take_le n a l
  rw [hs, ← h4] at h7 h8
  refine ⟨?_, by omega, h8, h5, h6⟩
  unfold toks
  rw [ofI_some (items_ne h) h1]
  have e0 : ((items a l).getD 0 default).from' = a := by rw [items_one h]; rfl
  have e1 : ((items a l).getD (n - 1) default).from' + ((items a l).getD (n - 1) default).bytes = a + (nextB D l).1 := by
    have h9 := sum_take_succ (a := a) (l := l) (c := n - 1) (by omega)
    rw [show n - 1 + 1 = n by omega, hs, ← h4] at h9
    have h10 := from_at (a := a) (l := l) (c := n - 1) (by omega)
    have h11 : ((items a l).getD (n - 1) default).from' = a + sum ((items a l).take (n - 1)) := by rw [h10]; rfl
    rw [h11, h9, Nat.add_assoc]
  rw [e0, e1, items_drop, hs, ← h4]

/-- A pre-token as a value. -/
def encT (t : Tk) : Value := .agg #[.int .i64 t.a, .int .i64 t.b, .int .i64 t.s]

set_option maxRecDepth 100000 in
theorem All_calls (mb : Nat) (s : ByteArray) (w : World) : Calls Tryd.prog 53 #[.pointer (some ⟨mb, 0, none⟩), .string s] w fun e w' =>
    e = .returned (.func (.func 72) #[] #[.pointer (some ⟨w.heap.size, 0, none⟩), .pointer (some ⟨w.heap.size + 1, 0, none⟩)]) ∧ (w.alloc (.cells #[.pointer (some ⟨mb, 0, none⟩)] 27)).alloc (.cells #[.string s] 9) = w' := by
  have hmf : ∀ (fn : Fn) (first cap : Array Value) (w : World), (Instr.makeFunc fn first cap).run Tryd.prog w = .ok (.func fn first cap) w := fun _ _ _ _ => rfl
  go_enter Tryd.func53, Tryd.ntmps53
  go_wp2
  go_ret
  exact ⟨rfl, rfl⟩

set_option maxHeartbeats 2000000 in
set_option maxRecDepth 100000 in
theorem all_iter (D : Dt) (mb : Nat) (w w0 : World) (bm bs : Nat) (s : ByteArray) (h : Mod w mb D) (hT : Tabs w) (hw : Below w.heap.size w w0) (hm : w0.heap[bm]? = some (.cells #[.pointer (some ⟨mb, 0, none⟩)] 27 (0, 0))) (hx : w0.heap[bs]? = some (.cells #[.string s] 9 (0, 0))) (hl : s.size ≤ 1048576) :
    Iter Tryd.prog 72 #[.pointer (some ⟨bm, 0, none⟩), .pointer (some ⟨bs, 0, none⟩)] (fun k => #[encT ((toks D 0 s.data.toList).getD k default)]) (toks D 0 s.data.toList).length (fun b => b < w.heap.size ∨ b = bm ∨ b = bs) w0 := by
  intro l J Jx W hW hJ hJx hS hY S0 h0
  have HG := Lib.hid (Good.of_mod h)
  have HJ := Lib.hid hJ
  have HJx := Lib.hid hJx
  have HS := Lib.hid hS
  have HY := Lib.hid hY
  have HMM := Lib.hid h
  have HT := Lib.hid hT
  have HB := Lib.hid (chain hw hW)
  have HM := Lib.hid ((hW.block bm (lt_of_heap hm)).trans hm)
  have HX := Lib.hid ((hW.block bs (lt_of_heap hx)).trans hx)
  obtain ⟨T, htt⟩ : ∃ T, toks D 0 s.data.toList = T := ⟨_, rfl⟩
  have HTT := Lib.hid htt
  rw [htt] at HY ⊢
  clear hW hJ hJx hS hY hx hm htt h hT hw
  refine callsIn_wide.2 ?_
  have H0 := Lib.hid h0
  clear h0
  have hpn : ∀ W, (Go.binOp .eql 27 (.pointer (some ⟨mb, 0, none⟩)) (.pointer none)).run Tryd.prog W = .ok (.bool false) W := fun W => by kernel_rfl
  have hl' : ¬ ((1048576 : Int) < s.size) := by omega
  have m0 := cell_at HM.out 0
  have mz := lt_of_heap HM.out
  simp only [List.getElem?_toArray, List.getElem?_cons_zero] at m0
  have x0 := cell_at HX.out 0
  have xz := lt_of_heap HX.out
  simp only [List.getElem?_toArray, List.getElem?_cons_zero] at x0
  go_enter Tryd.func72, Tryd.ntmps72
  go_wp2_with fail
  clear hpn
  go_loopg [4] s.size (fun g s4 wr => ∃ (a k : Nat) (S : Nat → Prop), a ≤ s.size ∧ g = s.size - a ∧ s4 = .int .i64 a ∧ J k S wr ∧ k ≤ T.length ∧ T.drop k = toks D a (s.data.toList.drop a) ∧ Below w.heap.size w wr ∧ wr.heap[bm]? = some (.cells #[.pointer (some ⟨mb, 0, none⟩)] 27 (0, 0)) ∧ wr.heap[bs]? = some (.cells #[.string s] 9 (0, 0)))
  case atStart => exact ⟨0, 0, S0, Nat.zero_le _, by omega, rfl, H0.out, Nat.zero_le _, HTT.out.symm, HB.out, HM.out, HX.out⟩
  case round =>
    obtain ⟨a, k, S, ha, hg, rfl, hj, hk, hd, hb, hm, hx⟩ := hrel
    have HGK := Lib.hid hg
    have HJK := Lib.hid hj
    have HD := Lib.hid hd
    have HB := Lib.hid hb
    have HM := Lib.hid hm
    have HX := Lib.hid hx
    clear hg hj hd hb hm hx m0 mz x0 xz
    have m0 := cell_at HM.out 0
    have mz := lt_of_heap HM.out
    simp only [List.getElem?_toArray, List.getElem?_cons_zero] at m0
    have x0 := cell_at HX.out 0
    have xz := lt_of_heap HX.out
    simp only [List.getElem?_toArray, List.getElem?_cons_zero] at x0
    by_cases hlt : a < s.size
    · have hlti : (a : Int) < s.size := by omega
      have hsz := size_list s
      have hne : s.data.toList.drop a ≠ [] := by
        intro h
        rw [List.drop_eq_nil_iff] at h
        omega
      have hC := fun W2 (hb : Below w.heap.size w W2) => next_calls D mb (s.extract a s.size) W2 (HMM.out.below hb) (HT.out.below hb) (by simp; omega) (by simp; omega)
      rw [drop_list s a s.size rfl] at hC
      obtain ⟨hd, h1, h2, h3, h4⟩ := toks_cons HG.out a hne
      obtain ⟨n, hn⟩ : ∃ n, (nextB D (s.data.toList.drop a)).1 = n := ⟨_, rfl⟩
      obtain ⟨q, hq⟩ : ∃ q, (nextB D (s.data.toList.drop a)).2 = q := ⟨_, rfl⟩
      rw [hn, hq] at hC hd
      rw [hn] at h1 h2
      rw [List.length_drop, hsz] at h2
      have hD := HD.out
      rw [hd, List.drop_drop] at hD
      have hklt : k < T.length := by
        rcases Nat.lt_or_ge k T.length with h | h
        · exact h
        · rw [List.drop_eq_nil_of_le h] at hD
          cases hD
      rw [List.drop_eq_getElem_cons hklt, List.cons.injEq] at hD
      have hTk : T.getD k default = ⟨a, a + n, q⟩ := by
        rw [List.getD, List.getElem?_eq_getElem hklt, ← hD.1]
        rfl
      have HD2 := Lib.hid hD.2
      have HC := Lib.hid hC
      have HNN := Lib.hid (And.intro h1 h2)
      have HTK := Lib.hid hTk
      have hw1 : IntKind.i64.wrap ((a : Int) + n) = (a : Int) + n := i64w _ (by omega) (by omega)
      clear hC hD hd h1 h2 h3 h4 hne hTk hn hq hsz
      go_upto_region 3 with fail
      refine region_calm (by kernel_rfl) (by kernel_rfl) ?_
      repeat (quiet_step ((exact later_call (HC.out _ (Later.chain HB.out _)))))
      refine wpQuiet_nil ?_
      rintro _ ⟨y, rfl⟩
      have HJ3 := Lib.hid (HJ.out k S wr y.w HJK.out (.of_below y.h))
      have hb3 := y.h
      generalize y.w = W3 at HJ3 hb3 ⊢
      have HM := Lib.hid ((hb3.block _ (lt_of_heap HM.out)).trans HM.out)
      have HX := Lib.hid ((hb3.block _ (lt_of_heap HX.out)).trans HX.out)
      have HB := Lib.hid (chain HB.out hb3)
      clear y hb3 m0 mz x0 xz
      obtain ⟨fn, tmps, assign, body, hy, hrd⟩ := HY.out k S W3 hklt HJ3.out
      rw [HTK.out] at hy
      unfold encT at hy
      simp only [Int.natCast_add] at hy
      have HRD := Lib.hid hrd
      clear hrd
      go_upto_region 4 with fail
      refine (wpIn_wide (n := 0)).1 ?_
      gi_wp2_with fail
      refine ⟨rfl, HRD.out.mono ?_⟩
      rintro e B (⟨rfl, S2, hj, hu, hs⟩ | ⟨rfl, S2, hj, hu, hs⟩)
      · have hcap := (HS.out k S W3 HJ3.out).2
        have HJ4 := Lib.hid hj
        have HX2 := Lib.hid (Upd.mem hu HX.out (fun h => (hcap _ h).2 (.inr (.inr rfl))))
        have HM2 := Lib.hid (Upd.mem hu HM.out (fun h => (hcap _ h).2 (.inr (.inl rfl))))
        have HB2 := Lib.hid (HB.out.trans (hu.below HB.out.size (fun b hb h => (hcap _ h).2 (.inl hb))))
        clear hcap hj hu hs hy
        gi_wp2
        go_wp2_with fail
        obtain ⟨hx1, hx2⟩ := HNN.out
        have hgg := HGK.out
        go_roundg (s.size - (a + n))
        case measure => omega
        case rel => exact ⟨a + n, k + 1, S2, by omega, rfl, congrArg (Value.int .i64) (by first | exact IntWalk.wrap64_in ((a : Int) + n) (by omega) | omega | rfl), HJ4.out, hklt, HD2.out, HB2.out, HM2.out, HX2.out⟩
      · have HJ4 := Lib.hid hj
        clear hj hu hs
        gi_wp2
        go_wp2_with fail
        refine bodyPost_ret (results_none rfl _ _ _) rfl ?_
        exact ⟨⟨_, rfl⟩, .inr ⟨k, S2, hklt, HJ4.out⟩⟩
    · have hil : a = s.size := by omega
      subst hil
      have hD := HD.out
      rw [show s.data.toList.drop s.size = [] from List.drop_eq_nil_iff.2 (by rw [size_list]; exact Nat.le_refl _), toks_nil] at hD
      have hkT : k = T.length := by
        rcases Nat.lt_or_ge k T.length with h | h
        · rw [List.drop_eq_getElem_cons h] at hD
          cases hD
        · omega
      have HK := Lib.hid hkT
      clear hD hkT
      go_wp2_with fail
      go_end0
      rw [← HK.out]
      exact ⟨⟨_, rfl⟩, .inl ⟨S, HJK.out⟩⟩
end Go.Proofs.YtkjkgpdfhmoenaaDoor.CutAll
namespace Go.Proofs.YtkjkgpdfhmoenaaDoor.CutPlain
open Go Go.Proofs.YtkjkgpdfhmoenaaDoor.Utf Go.Proofs.YtkjkgpdfhmoenaaDoor.It Go.Proofs.YtkjkgpdfhmoenaaDoor.Dt Go.Proofs.YtkjkgpdfhmoenaaDoor.Cu Go.Proofs.YtkjkgpdfhmoenaaDoor.CutAll

theorem strong {P : List UInt8 → Prop} (h : ∀ l, (∀ m : List UInt8, m.length < l.length → P m) → P l) (l : List UInt8) : P l := by
  generalize hn : l.length = n
  induction n using Nat.strongRecOn generalizing l with
  | _ n ih => exact h l fun m hm => ih _ (by omega) m rfl

theorem drop_lt {D : Dt} (hg : Good.Good D) {l : List UInt8} (hl : l ≠ []) : (l.drop (nextB D l).1).length < l.length := by
  obtain ⟨_, h2, h3, _⟩ := toks_cons hg 0 hl
  rw [List.length_drop]; omega

def shT (c : Nat) (t : Tk) : Tk := ⟨c + t.a, c + t.b, t.s⟩
theorem toks_shift {D : Dt} (hg : Good.Good D) (c : Nat) (l : List UInt8) : ∀ a, toks D (c + a) l = (toks D a l).map (shT c) := by
  induction l using strong with
  | h l ih =>
    intro a
    by_cases hl : l = []
    · subst hl; rfl
    · have h1 := (toks_cons hg (c + a) hl).1
      have h2 := (toks_cons hg a hl).1
      rw [h1, h2, List.map_cons, Nat.add_assoc, ih _ (drop_lt hg hl)]
      simp only [shT]

/-- The k-th pre-token ends within the text, behind its beginning; behind it the rest is cut. -/
theorem toks_at {D : Dt} (hg : Good.Good D) (l : List UInt8) : ∀ (a k : Nat), k < (toks D a l).length → a ≤ ((toks D a l).getD k default).a ∧ ((toks D a l).getD k default).a < ((toks D a l).getD k default).b ∧ ((toks D a l).getD k default).b ≤ a + l.length ∧
    1 ≤ ((toks D a l).getD k default).s ∧ ((toks D a l).getD k default).s ≤ 5 ∧ (toks D a l).drop (k + 1) = toks D ((toks D a l).getD k default).b (l.drop (((toks D a l).getD k default).b - a)) := by
  induction l using strong with
  | h l ih =>
    intro a k hk
    by_cases hl : l = []
    · subst hl; simp [toks_nil] at hk
    · obtain ⟨h1, h2, h3, h4, h5⟩ := toks_cons hg a hl
      rw [h1] at hk ⊢
      cases k with
      | zero =>
        refine ⟨Nat.le_refl _, ?_, ?_, h4, h5, ?_⟩
        · show a < a + (nextB D l).1; omega
        · show a + (nextB D l).1 ≤ a + l.length; omega
        · show toks D (a + (nextB D l).1) (l.drop (nextB D l).1) = toks D (a + (nextB D l).1) (l.drop (a + (nextB D l).1 - a))
          rw [Nat.add_sub_cancel_left]
      | succ k =>
        rw [List.length_cons] at hk
        obtain ⟨g1, g2, g3, g4, g5, g6⟩ := ih _ (drop_lt hg hl) (a + (nextB D l).1) k (by omega)
        rw [List.length_drop] at g3
        show a ≤ ((toks D (a + (nextB D l).1) (l.drop (nextB D l).1)).getD k default).a ∧ _
        refine ⟨by omega, g2, ?_, g4, g5, ?_⟩
        · show ((toks D (a + (nextB D l).1) (l.drop (nextB D l).1)).getD k default).b ≤ _; omega
        · show (toks D (a + (nextB D l).1) (l.drop (nextB D l).1)).drop (k + 1) = toks D ((toks D (a + (nextB D l).1) (l.drop (nextB D l).1)).getD k default).b (l.drop (((toks D (a + (nextB D l).1) (l.drop (nextB D l).1)).getD k default).b - a))
          rw [g6, List.drop_drop]
          congr 2
          omega

theorem cut_anew {D : Dt} (hg : Good.Good D) (l : List UInt8) {k : Nat} (hk : k < (toks D 0 l).length) : (toks D 0 (l.drop ((toks D 0 l).getD k default).b)).length = (toks D 0 l).length - k - 1 ∧
    ∀ i, i < (toks D 0 (l.drop ((toks D 0 l).getD k default).b)).length → (toks D 0 l).getD (k + 1 + i) default = shT ((toks D 0 l).getD k default).b ((toks D 0 (l.drop ((toks D 0 l).getD k default).b)).getD i default) := by
  obtain ⟨_, _, _, _, _, h⟩ := toks_at hg l 0 k hk
  rw [Nat.sub_zero] at h
  have h2 := toks_shift hg ((toks D 0 l).getD k default).b (l.drop ((toks D 0 l).getD k default).b) 0
  rw [Nat.add_zero] at h2
  rw [h2] at h
  refine ⟨?_, fun i hi => ?_⟩
  · have := congrArg List.length h
    rw [List.length_drop, List.length_map] at this
    omega
  · rw [← getD_drop, h]
    obtain ⟨N, hN⟩ : ∃ N, toks D 0 (l.drop ((toks D 0 l).getD k default).b) = N := ⟨_, rfl⟩
    rw [hN] at hi ⊢
    simp only [List.getD, List.getElem?_map, List.getElem?_eq_getElem hi, Option.map_some, Option.getD_some]
end Go.Proofs.YtkjkgpdfhmoenaaDoor.CutPlain
namespace Go.Proofs.YtkjkgpdfhmoenaaDoor.CutTokens
open Go Go.RowKit Go.Proofs.YtkjkgpdfhmoenaaDoor.Kit Go.Proofs.YtkjkgpdfhmoenaaDoor.Range Go.Proofs.YtkjkgpdfhmoenaaDoor.Round Go.Proofs.YtkjkgpdfhmoenaaDoor.Seg Go.Proofs.YtkjkgpdfhmoenaaDoor.Collect Go.Proofs.YtkjkgpdfhmoenaaDoor.Utf Go.Proofs.YtkjkgpdfhmoenaaDoor.It Go.Proofs.YtkjkgpdfhmoenaaDoor.ItGo Go.Proofs.YtkjkgpdfhmoenaaDoor.Dt Go.Proofs.YtkjkgpdfhmoenaaDoor.Mo Go.Proofs.YtkjkgpdfhmoenaaDoor.MoNew Go.Proofs.YtkjkgpdfhmoenaaDoor.Cu Go.Proofs.YtkjkgpdfhmoenaaDoor.CutRun Go.Proofs.YtkjkgpdfhmoenaaDoor.CutNext Go.Proofs.YtkjkgpdfhmoenaaDoor.CutAll
attribute [local irreducible] wpQuiet
attribute [local go_sem] Oper.semAt_some

/-- Pre-tokens' cells. -/
def flat (T : List Tk) : List Value := T.flatMap fun t => [.int .i64 t.a, .int .i64 t.b, .int .i64 t.s]
theorem flat_len : ∀ T, (flat T).length = T.length * 3
  | [] => rfl
  | t :: T => by
    have := flat_len T
    unfold flat at this ⊢
    rw [List.flatMap_cons, List.length_append, this]
    simp; omega
theorem flat_append (S T : List Tk) : flat (S ++ T) = flat S ++ flat T := by simp [flat]
theorem flat_at {T : List Tk} : ∀ {i : Nat}, i < T.length → (flat T)[i * 3]? = some (.int .i64 (T.getD i default).a) ∧ (flat T)[i * 3 + 1]? = some (.int .i64 (T.getD i default).b) ∧ (flat T)[i * 3 + 2]? = some (.int .i64 (T.getD i default).s) := by
  induction T with
  | nil => intro i h; simp at h
  | cons t T ih =>
    intro i h
    cases i with
    | zero => exact ⟨rfl, rfl, rfl⟩
    | succ i =>
      have h1 := ih (i := i) (by simpa using h)
      have e : ∀ j, (flat (t :: T))[(i + 1) * 3 + j]? = (flat T)[i * 3 + j]? := fun j => by
        rw [show (i + 1) * 3 + j = (i * 3 + j) + 3 by omega]
        rfl
      have e0 := e 0
      simp only [Nat.add_zero] at e0
      rw [e0, e 1, e 2]
      simpa using h1

/-- A list of pre-tokens of the call's own. -/
def TRow (w : World) (base : Nat) (v : Value) (T : List Tk) : Prop := Seg w base 50 3 v T.length (flat T)

theorem TRow.below {w w' : World} {base : Nat} {v : Value} {T : List Tk} (h : TRow w base v T) (hb : Below w.heap.size w w') : TRow w' base v T := Seg.below h hb
theorem TRow.shape {w : World} {base : Nat} {v : Value} {T : List Tk} (h : TRow w base v T) : ∃ a cap, v = .slice a T.length cap ∧ T.length ≤ cap ∧ ∀ i, i < T.length → ∃ g o, a = some ⟨g, o, none⟩ ∧ base ≤ g ∧ g < w.heap.size ∧
    ∀ i, i < T.length → w.cell? ⟨g, o + i * 3, none⟩ = some (.int .i64 (T.getD i default).a) ∧ w.cell? ⟨g, o + i * 3 + 1, none⟩ = some (.int .i64 (T.getD i default).b) ∧ w.cell? ⟨g, o + i * 3 + 2, none⟩ = some (.int .i64 (T.getD i default).s) := by
  obtain ⟨a, cap, rfl, h1, _, _⟩ := Seg.shape h
  refine ⟨a, cap, rfl, h1, fun i hi => ?_⟩
  obtain ⟨g, o, h2, h3, h4, h5⟩ := Seg.cells h (by omega)
  refine ⟨g, o, h2, h3, h4, fun i hi => ?_⟩
  obtain ⟨f1, f2, f3⟩ := flat_at hi
  exact ⟨h5 _ _ f1, by rw [Nat.add_assoc]; exact h5 _ _ f2, by rw [Nat.add_assoc]; exact h5 _ _ f3⟩

theorem elemT : Elem Tryd.prog 45 50 (.agg #[.int .i64 0, .int .i64 0, .int .i64 0]) 3 24 := ⟨Tryd.underlying45, by kernel_rfl, rfl, by decide⟩
theorem flat_take {T : List Tk} {k : Nat} (h : k < T.length) : flat (T.take (k + 1)) = flat (T.take k) ++ [.int .i64 (T.getD k default).a, .int .i64 (T.getD k default).b, .int .i64 (T.getD k default).s] := by
  rw [List.take_add_one, flat_append]
  simp [flat, List.getD, h]
theorem toks_len (D : Dt) (hg : Good.Good D) (l : List UInt8) : ∀ a, (toks D a l).length ≤ l.length := by
  generalize hn : l.length = n
  induction n using Nat.strongRecOn generalizing l with
  | _ n ih =>
    intro a
    by_cases hl : l = []
    · subst hl; simp [toks_nil]
    · obtain ⟨h1, h2, h3, _⟩ := toks_cons hg a hl
      rw [h1, List.length_cons]
      have := ih _ (by rw [← hn, List.length_drop]; omega) (l.drop (nextB D l).1) rfl (a + (nextB D l).1)
      rw [List.length_drop] at this
      omega

theorem All_new (mb : Nat) (s : ByteArray) (w : World) : Calls Tryd.prog 53 #[.pointer (some ⟨mb, 0, none⟩), .string s] w fun e w' => ∃ bm bs,
    e = .returned (.func (.func 72) #[] #[.pointer (some ⟨bm, 0, none⟩), .pointer (some ⟨bs, 0, none⟩)]) ∧ w'.heap[bm]? = some (.cells #[.pointer (some ⟨mb, 0, none⟩)] 27 (0, 0)) ∧ w'.heap[bs]? = some (.cells #[.string s] 9 (0, 0)) ∧ w.heap.size ≤ bm ∧ bm < bs ∧ Below w.heap.size w w' := by
  refine (CutAll.All_calls mb s w).mono ?_
  rintro e w' ⟨rfl, rfl⟩
  refine ⟨_, _, rfl, ?_, alloc_new (by simp), Nat.le_refl _, by omega, ((Below.refl _ _).alloc (Nat.le_refl _) _).alloc (by simp) _⟩
  rw [alloc_old (by simp), alloc_new rfl]

set_option maxHeartbeats 2000000 in
set_option maxRecDepth 100000 in
theorem Tokens_calls (D : Dt) (mb : Nat) (s : ByteArray) (w : World) (h : Mod w mb D) (hT : Tabs w) (hl : s.size ≤ 1048576) :
    Calls Tryd.prog 23 #[.pointer (some ⟨mb, 0, none⟩), .string s] w fun e w' => ∃ v, e = .returned (.tuple #[v, .int .i64 0]) ∧ TRow w' w.heap.size v (toks D 0 s.data.toList) ∧ Below w.heap.size w w' := by
  have HM := Lib.hid h
  have HT := Lib.hid hT
  have hsz := size_list s
  have hlen := toks_len D (Good.of_mod h) s.data.toList 0
  rw [hsz] at hlen
  have hl' : ¬ ((1048576 : Int) < s.size) := by omega
  clear h hT hsz
  refine calls_of_wp_marks Tryd.func23 rfl ?_
  simp only [Tryd.ntmps23, List.size_toArray, List.length_cons, List.length_nil, Nat.reduceAdd, Nat.reduceSub, Array.replicate_succ, Array.replicate_zero, List.push_toArray, List.append_toArray, List.nil_append, List.cons_append]
  obtain ⟨W1, hW1⟩ : ∃ Xz, w.alloc (.cells #[.slice none 0 0] 45) = Xz := ⟨_, rfl⟩
  obtain ⟨bl, hbl⟩ : ∃ xz, w.heap.size = xz := ⟨_, rfl⟩
  have hb1 : Below w.heap.size w W1 := by rw [← hW1]; exact (Below.refl _ _).alloc (Nat.le_refl _) _
  have HL := Lib.hid (by rw [← hW1, ← hbl]; exact alloc_new rfl : W1.heap[bl]? = some (.cells #[.slice none 0 0] 45 (0, 0)))
  have EW1 := Lib.hid hW1
  have Ebl := Lib.hid hbl
  clear hW1 hbl
  have o1 : w.heap.size ≤ bl := Nat.le_of_eq Ebl.out
  have HB := Lib.hid hb1
  clear hb1
  go_wp2_with fail
  rw [EW1.out, Ebl.out]
  refine (All_new mb s W1).mono ?_
  rintro e W2 ⟨bm, bs, rfl, hbm, hbs, o2, o3, hb2⟩
  have HMB := Lib.hid hbm
  have HSB := Lib.hid hbs
  have o4 : bl < bm := Nat.lt_of_lt_of_le (lt_of_heap HL.out) o2
  have o5 : bs < W2.heap.size := lt_of_heap hbs
  have HL := Lib.hid ((hb2.block _ (lt_of_heap HL.out)).trans HL.out)
  have HB := Lib.hid (chain HB.out hb2)
  clear hbm hbs o2 hb2
  go_wp2_with fail
  refine range_outer (w0 := W2) (N := (toks D 0 s.data.toList).length) (Cap := fun b => b < w.heap.size ∨ b = bm ∨ b = bs) (gf := 72) (lb := #[.pointer (some ⟨bm, 0, none⟩), .pointer (some ⟨bs, 0, none⟩)]) (encs := fun k => #[encT ((toks D 0 s.data.toList).getD k default)]) rfl (Go.Proofs.enters_of Tryd.func72 (by kernel_rfl) rfl)
    (all_iter D mb w W2 bm bs s HM.out HT.out HB.out HMB.out HSB.out hl) (Below.refl _ _) (fun _ => rfl) ?cap
    (fun k S W => ∃ v, (∀ b, S b ↔ b = bl ∨ v.ownBlock = some b) ∧ Col 45 50 3 k (flat ((toks D 0 s.data.toList).take k)) bl W2 v W)
    (fun c k S W => False)
    ?ki ?kx (fun b => b = bl) ⟨.slice none 0 0, fun b => by simp [Value.ownBlock], ⟨Upd.refl _ _, HL.out, Seg.nil _ _ _ _⟩⟩ ?s0 ?round ?done ?stop
  case cap =>
    have := HB.out.size
    rintro b (h | rfl | rfl) <;> omega
  case ki =>
    rintro k S A B ⟨v, hS, hst⟩ hu
    exact ⟨v, hS, hst.keep hu (fun h => h.2 ((hS _).2 (.inl rfl))) (fun b hb h => h.2 ((hS _).2 (.inr hb))) (fun b hb h => by have := h.1; omega)⟩
  case kx =>
    rintro c k S A B h hu
    exact h
  case s0 =>
    rintro b rfl
    exact ⟨by omega, by omega⟩
  case round =>
    rintro l k S A hk ⟨v, hS, hst⟩ h1 h2 h3 h4 h5 h6
    obtain ⟨x, hx⟩ : ∃ x, (toks D 0 s.data.toList).getD k default = x := ⟨_, rfl⟩
    rw [hx]
    unfold encT
    obtain ⟨A1, hA1⟩ : ∃ Xz, A.alloc (.cells #[.int .i64 x.a, .int .i64 x.b, .int .i64 x.s] 50) = Xz := ⟨_, rfl⟩
    obtain ⟨bt, hbt⟩ : ∃ xz, A.heap.size = xz := ⟨_, rfl⟩
    have hbA : Below A.heap.size A A1 := by rw [← hA1]; exact (Below.refl _ _).alloc (Nat.le_refl _) _
    have HV := Lib.hid (by rw [← hA1, ← hbt]; exact alloc_new rfl : A1.heap[bt]? = some (.cells #[.int .i64 x.a, .int .i64 x.b, .int .i64 x.s] 50 (0, 0)))
    have EA1 := Lib.hid hA1
    have Ebt := Lib.hid hbt
    clear hA1 hbt
    have HX0 := Lib.hid hx
    have H6 := Lib.hid h6
    clear hx hst h5 h6 hS
    gi_wp2
    rw [EA1.out, Ebt.out]
    rw [Ebt.out] at hbA
    refine ⟨hbA, fun A2 hu hz hI2 hr2 => ?_⟩
    obtain ⟨v2, hS2, hst2⟩ := hI2
    have HST := Lib.hid hst2
    have HS2 := Lib.hid hS2
    have HVV := Lib.hid (Upd.mem hu HV.out (by have := Ebt.out; omega))
    have oA : A.heap.size = bt := Ebt.out
    clear hS2 hst2 hr2 hu hz hbA
    obtain ⟨A3, hA3⟩ : ∃ Xz, A2.alloc (.cells #[.int .i64 x.a, .int .i64 x.b, .int .i64 x.s] 50) = Xz := ⟨_, rfl⟩
    obtain ⟨bq, hbq⟩ : ∃ xz, A2.heap.size = xz := ⟨_, rfl⟩
    have hbn : Below A2.heap.size A2 A3 := by rw [← hA3]; exact (Below.refl _ _).alloc (Nat.le_refl _) _
    have HN := Lib.hid (by rw [← hA3, ← hbq]; exact alloc_new rfl : A3.heap[bq]? = some (.cells #[.int .i64 x.a, .int .i64 x.b, .int .i64 x.s] 50 (0, 0)))
    have EA3 := Lib.hid hA3
    have Ebq := Lib.hid hbq
    clear hA3 hbq
    obtain ⟨v3, A4, hrun, hcl, hcol, hu4, hown, ⟨av, cv, hvv⟩, hzz⟩ := Col.next elemT (HST.out.below hbn) HN.out rfl (by simp [Value.oneCell']) (by unfold maxLen; omega) (by omega) (by omega) 45
    subst hvv
    have HCOL := Lib.hid hcol
    have HCL := Lib.hid hcl
    have HU4 := Lib.hid hu4
    have HOWN := Lib.hid hown
    have HC0 := Lib.hid HST.out.c
    have o6 := hbn.size
    have HBN := Lib.hid hbn
    rw [← EA3.out, ← Ebq.out] at hrun
    clear hcol hcl hu4 hown hbn
    have c0 := cell_at HC0.out 0
    have cz := lt_of_heap HC0.out
    simp only [List.getElem?_toArray, List.getElem?_cons_zero] at c0
    have q0 := cell_at HCL.out 0
    have qf := free_all HCL.out
    have qz := lt_of_heap HCL.out
    simp only [List.getElem?_toArray, List.getElem?_cons_zero] at q0
    have v0 := cell_at HVV.out 0
    have v1 := cell_at HVV.out 1
    have v2 := cell_at HVV.out 2
    have vz := lt_of_heap HVV.out
    simp only [List.getElem?_toArray, List.getElem?_cons_zero, List.getElem?_cons_succ] at v0 v1 v2
    have HRUN := Lib.hid hrun
    clear hrun
    gi_wp2_with (gi_at_builtin; refine append_run_in rfl rfl rfl rfl HRUN.out ?_)
    have hz4 := HU4.out.size
    have HX0' := HX0.out
    rw [show k = k from rfl] at hk
    have hft := flat_take hk
    rw [HX0'] at hft
    rw [← hft] at HCOL
    refine ⟨fun b => b = bl ∨ (Value.slice (some av) (k + 1) cv).ownBlock = some b, ⟨_, fun b => Iff.rfl, HCOL.out⟩, ?_, fun b hb => ⟨?_, ?_⟩⟩
    · refine (Upd.of_below HBN.out : Upd (fun b => S b ∨ A.heap.size ≤ b) A2 A3).trans (HU4.out.mono fun b _ hh => .inl ((HS2.out b).2 hh))
    · rcases hb with hb | hb
      · exact .inl ((HS2.out b).2 (.inl hb))
      · rcases HOWN.out b hb with h7 | h7
        · exact .inl ((HS2.out b).2 (.inr h7))
        · exact .inr (by omega)
    · rcases hb with hb | hb
      · have := HCOL.out.c
        rw [hb]
        exact lt_of_heap this
      · exact (HCOL.out.r.lt b hb).2
  case done =>
    rintro S B ⟨v, hS, hst⟩ hD
    rw [List.take_length] at hst
    have HST := Lib.hid hst
    have HDD := Lib.hid hD
    have HBB := Lib.hid (HB.out.trans (HST.out.u.below HB.out.size (fun b hb h => by omega)))
    have HC0 := Lib.hid HST.out.c
    clear hst hD hS
    have c0 := cell_at HC0.out 0
    have cz := lt_of_heap HC0.out
    simp only [List.getElem?_toArray, List.getElem?_cons_zero] at c0
    go_wp2_with fail
    have hB := HBB.out
    refine leaves_marks (v := .tuple #[v, .int .i64 0]) [W2.heap.size] _ (fun d hd => ?_) (by simp) (fun w' hu => ⟨?_, v, rfl, ?_, ?_⟩)
    · rw [List.mem_singleton] at hd
      rw [hd]
      exact HDD.out
    · simp [results, Tryd.results23, go_sem]
    · refine Seg.rebase (Seg.upd HST.out.r hu (fun b hb hh => ?_)) (fun b hb => ?_)
      · rw [List.mem_singleton] at hh
        rcases HST.out.r.at' with ⟨h9, _⟩ | ⟨g, o, cap, cur, h9, _, hg, _⟩
        · rw [h9] at hb; cases hb
        · rw [h9] at hb
          simp only [Value.ownBlock, Option.some.injEq] at hb
          rw [hb, hh, HDD.out] at hg
          cases hg
      · have := (HST.out.r.lt b hb).1
        have := HB.out.size
        omega
    · exact hB.trans (hu.below hB.size (fun k hk h => by
        rw [List.mem_singleton] at h
        have := HB.out.size
        omega))
  case stop =>
    rintro c k S B hk h hD
    exact h.elim
end Go.Proofs.YtkjkgpdfhmoenaaDoor.CutTokens
namespace Go.Proofs.YtkjkgpdfhmoenaaDoor.WholeLaw
open Go Go.Proofs.YtkjkgpdfhmoenaaDoor.Dt Go.Proofs.YtkjkgpdfhmoenaaDoor.Utf Go.Proofs.YtkjkgpdfhmoenaaDoor.It Go.Proofs.YtkjkgpdfhmoenaaDoor.Cu Go.Proofs.YtkjkgpdfhmoenaaDoor.CutAll

theorem by_take {l : List UInt8} {m k : Nat} (h : k < m) : by' (l.take m) k = by' l k := by
  unfold by'
  rw [List.getD_eq_getElem?_getD, List.getD_eq_getElem?_getD, List.getElem?_take, if_pos h]
theorem ok_take {l : List UInt8} {m k : Nat} (h : k < m) : ok (l.take m) k = ok l k := by
  unfold ok
  by_cases h1 : k = 1
  · subst h1
    rw [by_take h, by_take (by omega : 0 < m)]
  · rw [if_neg h1, if_neg h1, by_take h]
theorem width_take {l : List UInt8} {m : Nat} (hm : 1 ≤ m) (hw : width l ≤ m) : width (l.take m) = width l := by
  have b0 : by' (l.take m) 0 = by' l 0 := by_take (by omega)
  have hl : (l.take m).length = min m l.length := List.length_take
  have o1 : 1 < m → ok (l.take m) 1 = ok l 1 := fun h => ok_take h
  have o2 : 2 < m → ok (l.take m) 2 = ok l 2 := fun h => ok_take h
  have o3 : 3 < m → ok (l.take m) 3 = ok l 3 := fun h => ok_take h
  rcases width_cases (l.take m) with g | g | g | g | g
  · rcases width_cases l with h | h | h | h | h <;> omega
  · have q1 := o1 (by omega)
    rw [q1] at g
    rcases width_cases l with h | h | h | h | h
    · omega
    · omega
    · omega
    · omega
    · exact absurd ⟨by omega, by omega, by omega, g.2.2.2.2⟩ h.2.2.1
  · have q1 := o1 (by omega)
    have q2 := o2 (by omega)
    rw [q1, q2] at g
    rcases width_cases l with h | h | h | h | h
    · omega
    · omega
    · omega
    · omega
    · exact absurd ⟨by omega, by omega, by omega, g.2.2.2.2⟩ h.2.2.2.1
  · have q1 := o1 (by omega)
    have q2 := o2 (by omega)
    have q3 := o3 (by omega)
    rw [q1, q2, q3] at g
    rcases width_cases l with h | h | h | h | h
    · omega
    · omega
    · omega
    · omega
    · exact absurd ⟨by omega, by omega, by omega, g.2.2.2.2⟩ h.2.2.2.2
  · rcases width_cases l with h | h | h | h | h
    · omega
    · exact absurd ⟨by omega, by omega, by omega, by rw [o1 (by omega)]; exact h.2.2.2.2⟩ g.2.2.1
    · exact absurd ⟨by omega, by omega, by omega, by rw [o1 (by omega)]; exact h.2.2.2.2.1, by rw [o2 (by omega)]; exact h.2.2.2.2.2⟩ g.2.2.2.1
    · exact absurd ⟨by omega, by omega, by omega, by rw [o1 (by omega)]; exact h.2.2.2.2.1, by rw [o2 (by omega)]; exact h.2.2.2.2.2.1, by rw [o3 (by omega)]; exact h.2.2.2.2.2.2⟩ g.2.2.2.2
    · omega
theorem rune_take {l : List UInt8} {m : Nat} (hw : width l ≠ 0) (hm : width l ≤ m) : rune (l.take m) (width l) = rune l (width l) := by
  have b : ∀ k, k < m → by' (l.take m) k = by' l k := fun k h => by_take h
  unfold rune
  rcases width_cases l with h | h | h | h | h
  · rw [h.1, if_pos rfl, if_pos rfl, b 0 (by omega)]
  · rw [h.1, if_neg (by decide), if_pos rfl, if_neg (by decide), if_pos rfl, b 0 (by omega), b 1 (by omega)]
  · rw [h.1, if_neg (by decide), if_neg (by decide), if_pos rfl, if_neg (by decide), if_neg (by decide), if_pos rfl, b 0 (by omega), b 1 (by omega), b 2 (by omega)]
  · rw [h.1, if_neg (by decide), if_neg (by decide), if_neg (by decide), if_neg (by decide), if_neg (by decide), if_neg (by decide), b 0 (by omega), b 1 (by omega), b 2 (by omega), b 3 (by omega)]
  · exact absurd h.1 hw
theorem one_take (a : Nat) {l : List UInt8} {m : Nat} (h : (one a l).bytes ≤ m) : one a (l.take m) = one a l := by
  have h1 := one_pos a l
  rw [one_bytes] at h h1
  have hw : width (l.take m) = width l := width_take (by omega) (by split at h <;> omega)
  unfold one dec
  rw [hw]
  by_cases h0 : width l = 0
  · rw [if_pos h0, if_pos h0]
  · rw [if_neg h0] at h
    rw [if_neg h0, if_neg h0, rune_take h0 h]
/-- The items of a part that ends at an item. -/
theorem items_take : ∀ (n a : Nat) (l : List UInt8), n ≤ (items a l).length → items a (l.take (sum ((items a l).take n))) = (items a l).take n
  | 0, a, l, _ => by simp [items_nil]
  | n + 1, a, l, h => by
    by_cases hl : l = []
    · subst hl
      simp [items_nil] at h
    · rw [items_cons a hl] at h ⊢
      rw [List.take_succ_cons, sum_cons]
      have ih := items_take n (a + (one a l).bytes) (l.drop (one a l).bytes) (by simpa using h)
      have hp := one_pos a l
      have hne : l.take ((one a l).bytes + sum ((items (a + (one a l).bytes) (l.drop (one a l).bytes)).take n)) ≠ [] := by
        intro e
        have h1 := congrArg List.length e
        have h2 : 0 < l.length := List.length_pos_iff.2 hl
        rw [List.length_take, List.length_nil] at h1
        omega
      rw [items_cons a hne, one_take a (by omega)]
      congr 1
      rw [List.drop_take, Nat.add_sub_cancel_left]
      exact ih

/-- The kind of a sort's items. -/
def kindAt (s : Nat) : Int := if s = 2 then 1 else if s = 3 then 2 else if s = 4 then 4 else if s = 5 then 3 else 0

/-- All items of a pre-token but a blank ahead are of its kind. -/
theorem next_kind {D : Dt} {L : List It} {n s : Nat} (h : nextI D L true = some (n, s)) (_ : L ≠ []) (hs : s ≠ 1) {i : Nat} (hi : i < n) (hb : ¬ (i = 0 ∧ is (L.getD 0 default) 32 = true)) : kind D (L.getD i default) = kindAt s := by
  have hrun : ∀ j, j ≤ i → i < j + runI D (kind D (L.getD j default)) (L.drop j) → kind D (L.getD i default) = kind D (L.getD j default) := fun j hj hlt => by
    have := runI_at (D := D) (k := kind D (L.getD j default)) (L := L.drop j) (i := i - j) (by omega)
    rw [getD_drop, show j + (i - j) = i by omega] at this
    exact this
  unfold nextI at h
  split at h
  · cases h
  · simp only [Option.some.injEq, Prod.mk.injEq] at h
    omega
  · split at h
    · cases h
    · have hj : skip D L ≤ i := by
        unfold skip
        split
        · rename_i hq
          rcases Nat.eq_zero_or_pos i with h0 | h0
          · exact absurd ⟨h0, hq.1⟩ hb
          · exact h0
        · exact Nat.zero_le _
      have hr := hrun _ hj
      have kr := kind_range D (L.getD (skip D L) default)
      simp only at h
      generalize kind D (L.getD (skip D L) default) = k at h hr kr
      simp only [Bool.true_eq_false, and_false, if_false] at h
      split at h
      · rename_i hk
        split at h
        · simp only [Option.some.injEq, Prod.mk.injEq] at h
          rw [hr (by omega), hk, ← h.2]
          rfl
        · simp only [Option.some.injEq, Prod.mk.injEq] at h
          rw [hr (by omega), hk, ← h.2]
          rfl
      · rename_i hk
        simp only [Option.some.injEq, Prod.mk.injEq] at h
        rw [hr (by omega), ← h.2]
        unfold sortOf kindAt
        rcases kr with rfl | rfl | rfl | rfl
        · rfl
        · rfl
        · exact absurd rfl hk
        · rfl

theorem toks_step (D : Dt) (a : Nat) {l : List UInt8} (hl : l ≠ []) : ∃ n s, nextI D (items a l) true = some (n, s) ∧ 0 < n ∧ n ≤ (items a l).length ∧ 1 ≤ s ∧ s ≤ 5 ∧
    toks D a l = ⟨a, a + sum ((items a l).take n), s⟩ :: toks D (a + sum ((items a l).take n)) (l.drop (sum ((items a l).take n))) := by
  obtain ⟨n, s, h⟩ := nextI_fin D (L := items a l)
  have hne := items_ne (a := a) hl
  obtain ⟨h1, h2, h3, h4⟩ := nextI_some h hne
  refine ⟨n, s, h, h1, h2, h3, h4, ?_⟩
  unfold toks
  rw [ofI_some hne h, items_drop]
  have e0 : ((items a l).getD 0 default).from' = a := by rw [items_one hl]; rfl
  have e1 : ((items a l).getD (n - 1) default).from' + ((items a l).getD (n - 1) default).bytes = a + sum ((items a l).take n) := by
    have h5 := from_at (a := a) (l := l) (c := n - 1) (by omega)
    have h6 := sum_take_succ (a := a) (l := l) (c := n - 1) (by omega)
    rw [show n - 1 + 1 = n by omega] at h6
    have h7 : ((items a l).getD (n - 1) default).from' = a + sum ((items a l).take (n - 1)) := by rw [h5]; rfl
    omega
  rw [e0, e1]

/-- What the items of a pre-token are. -/
def Kinds (D : Dt) (s : Nat) (p : List UInt8) : Prop := s ≠ 1 → ∀ i, i < (items 0 p).length → ¬ (i = 0 ∧ is ((items 0 p).getD 0 default) 32 = true) → kind D ((items 0 p).getD i default) = kindAt s

theorem kinds_any {D : Dt} {s a : Nat} {p : List UInt8} (h : s ≠ 1 → ∀ i, i < (items a p).length → ¬ (i = 0 ∧ is ((items a p).getD 0 default) 32 = true) → kind D ((items a p).getD i default) = kindAt s) : Kinds D s p := by
  have e : items a p = (items 0 p).map (shift a) := by rw [← items_shift a p 0]; rfl
  intro hs i hi hb
  have hg : ∀ j, j < (items 0 p).length → (items a p).getD j default = shift a ((items 0 p).getD j default) := fun j hj => by
    rw [e, List.getD_eq_getElem?_getD, List.getElem?_map, List.getD_eq_getElem?_getD, List.getElem?_eq_getElem hj]
    rfl
  have h1 := h hs i (by rw [e, List.length_map]; exact hi) (fun ⟨h0, hq⟩ => hb ⟨h0, by rw [hg 0 (by omega)] at hq; exact hq⟩)
  rw [hg i hi] at h1
  exact h1

/-- A pre-token's place. -/
structure Part (D : Dt) (a : Nat) (l : List UInt8) (T : List Tk) (k : Nat) : Prop where
  lo : a ≤ (T.getD k default).a
  lt : (T.getD k default).a < (T.getD k default).b
  le : (T.getD k default).b ≤ a + l.length
  s1 : 1 ≤ (T.getD k default).s
  s5 : (T.getD k default).s ≤ 5
  first : k = 0 → (T.getD k default).a = a
  next : 0 < k → (T.getD k default).a = (T.getD (k - 1) default).b
  last : k + 1 = T.length → (T.getD k default).b = a + l.length
  at' : ∃ c, c ≤ (items a l).length ∧ (T.getD k default).b = a + sum ((items a l).take c)
  kinds : Kinds D (T.getD k default).s ((l.drop ((T.getD k default).a - a)).take ((T.getD k default).b - (T.getD k default).a))

theorem parts (D : Dt) : ∀ (l : List UInt8) (a k : Nat), k < (toks D a l).length → Part D a l (toks D a l) k := by
  intro l
  induction hn : l.length using Nat.strongRecOn generalizing l with
  | _ n ih =>
    intro a k hk
    by_cases hl : l = []
    · subst hl
      simp [toks_nil] at hk
    obtain ⟨m, s, hx, h1, h2, h3, h4, ht⟩ := toks_step D a hl
    obtain ⟨M, hM⟩ : ∃ z, sum ((items a l).take m) = z := ⟨_, rfl⟩
    have hMle := sum_take_le m a l
    have hM0 : 0 < M := by
      have := sum_le_take (L := items a l) (fun _ h => items_pos h) m h2
      omega
    have hdrop : (items a l).drop m = items (a + M) (l.drop M) := by rw [items_drop, hM]
    rw [hM] at ht hMle
    rw [ht] at hk ⊢
    cases k with
    | zero =>
      have e : ((⟨a, a + M, s⟩ : Tk) :: toks D (a + M) (l.drop M)).getD 0 default = ⟨a, a + M, s⟩ := rfl
      refine ⟨by rw [e]; exact Nat.le_refl _, by rw [e]; show a < a + M; omega, by rw [e]; show a + M ≤ _; omega, by rw [e]; exact h3, by rw [e]; exact h4, fun _ => by rw [e], fun h => by omega, fun h => ?_, ⟨m, h2, by rw [e, hM]⟩, ?_⟩
      · rw [e]
        show a + M = _
        have h5 : (toks D (a + M) (l.drop M)).length = 0 := by simp only [List.length_cons] at h; omega
        by_cases hr : l.drop M = []
        · have := congrArg List.length hr
          rw [List.length_drop, List.length_nil] at this
          omega
        · obtain ⟨_, _, _, _, _, _, _, ht2⟩ := toks_step D (a + M) hr
          rw [ht2] at h5
          simp at h5
      · rw [e]
        show Kinds D s ((l.drop (a - a)).take (a + M - a))
        rw [Nat.sub_self, List.drop_zero, Nat.add_sub_cancel_left]
        refine kinds_any (a := a) fun hs i hi hb => ?_
        have hit := items_take m a l h2
        rw [hM] at hit
        rw [hit] at hi hb ⊢
        have hg : ∀ j, j < m → ((items a l).take m).getD j default = (items a l).getD j default := fun j hj => by
          rw [List.getD_eq_getElem?_getD, List.getElem?_take, if_pos hj, List.getD_eq_getElem?_getD]
        have him : i < m := by rw [List.length_take] at hi; omega
        rw [hg i him]
        rw [hg 0 (by omega)] at hb
        exact next_kind hx (items_ne hl) hs him hb
    | succ k =>
      have hk' : k < (toks D (a + M) (l.drop M)).length := by simpa using hk
      have hp := ih (l.drop M).length (by rw [List.length_drop]; omega) (l.drop M) rfl (a + M) k hk'
      have e : ((⟨a, a + M, s⟩ : Tk) :: toks D (a + M) (l.drop M)).getD (k + 1) default = (toks D (a + M) (l.drop M)).getD k default := rfl
      have hdl : (l.drop M).length = l.length - M := List.length_drop
      have p1 := hp.lo
      have p2 := hp.lt
      have p3 := hp.le
      refine ⟨by rw [e]; omega, by rw [e]; exact p2, by rw [e]; omega, by rw [e]; exact hp.s1, by rw [e]; exact hp.s5, fun h => by omega, fun _ => ?_, fun h => ?_, ?_, ?_⟩
      · rw [e]
        cases k with
        | zero => rw [hp.first rfl]; rfl
        | succ k => exact hp.next (by omega)
      · rw [e, hp.last (by simpa using h)]
        omega
      · obtain ⟨c, hc1, hc2⟩ := hp.at'
        rw [← hdrop, List.length_drop] at hc1
        refine ⟨m + c, by omega, ?_⟩
        rw [e, hc2, ← hdrop, List.take_add, sum_append, hM]
        omega
      · rw [e]
        have hq := hp.kinds
        rw [List.drop_drop, show M + (((toks D (a + M) (l.drop M)).getD k default).a - (a + M)) = ((toks D (a + M) (l.drop M)).getD k default).a - a by omega] at hq
        exact hq

theorem from_sum {l : List UInt8} {k : Nat} (h : k < (items 0 l).length) : ((items 0 l).getD k default).from' = sum ((items 0 l).take k) := by
  rw [from_at h]
  show 0 + _ = _
  omega
/-- An item begins where none before it does. -/
theorem start_new {l : List UInt8} {k : Nat} (hk : k < (items 0 l).length) : ((((items 0 l).getD k default).from' : Nat) : Int) ∉ (l.length : Int) :: ((items 0 l).take k).map fun x => (x.from' : Int) := by
  rw [from_sum hk]
  intro h
  have h1 := sum_take_lt hk
  rcases List.mem_cons.1 h with h | h
  · omega
  · obtain ⟨y, hy, he⟩ := List.mem_map.1 h
    obtain ⟨j, hj, rfl⟩ := List.mem_iff_getElem.1 hy
    have hjk : j < k := by rw [List.length_take] at hj; omega
    have hjl : j < (items 0 l).length := by omega
    have e : ((items 0 l).take k)[j] = (items 0 l).getD j default := by
      rw [List.getElem_take, List.getD_eq_getElem?_getD, List.getElem?_eq_getElem hjl]
      rfl
    rw [e, from_sum hjl] at he
    have h2 := sum_take_succ hjl
    have h3 := items_pos (a := 0) (l := l) (x := (items 0 l).getD j default) (by rw [List.getD_eq_getElem?_getD, List.getElem?_eq_getElem hjl]; exact List.getElem_mem hjl)
    have h4 : sum ((items 0 l).take k) = sum ((items 0 l).take (j + 1)) + sum (((items 0 l).drop (j + 1)).take (k - (j + 1))) := by
      rw [← sum_append, ← List.take_add, show j + 1 + (k - (j + 1)) = k by omega]
    omega
end Go.Proofs.YtkjkgpdfhmoenaaDoor.WholeLaw
