/-
  cut.sort, cut.short, cut.next.
-/
import Derived.Test.YtendkmldecoogaaDoorCutRun
namespace Go.Proofs.YtendkmldecoogaaDoor.CutNext
open Go Go.RowKit Go.Proofs.YtendkmldecoogaaDoor.Kit Go.Proofs.YtendkmldecoogaaDoor.Range Go.Proofs.YtendkmldecoogaaDoor.Round Go.Proofs.YtendkmldecoogaaDoor.Utf Go.Proofs.YtendkmldecoogaaDoor.It Go.Proofs.YtendkmldecoogaaDoor.ItGo Go.Proofs.YtendkmldecoogaaDoor.Dt Go.Proofs.YtendkmldecoogaaDoor.Mo Go.Proofs.YtendkmldecoogaaDoor.MoNew Go.Proofs.YtendkmldecoogaaDoor.Cu Go.Proofs.YtendkmldecoogaaDoor.CutRun
attribute [local irreducible] wpQuiet

/-! ### The seven Shorts -/
def wd : Nat → List UInt8
  | 0 => [39, 115] | 1 => [39, 116] | 2 => [39, 109] | 3 => [39, 100] | 4 => [39, 114, 101] | 5 => [39, 118, 101] | _ => [39, 108, 108]
theorem pre2 (a b : UInt8) (l : List UInt8) : [a, b].isPrefixOf l = true ↔ 1 < l.length ∧ by' l 0 = a.toNat ∧ by' l 1 = b.toNat := by
  match l with
  | [] => simp
  | [x] => simp [by']
  | x :: y :: l =>
    simp only [List.isPrefixOf, Bool.and_eq_true, beq_iff_eq, by', List.getD_cons_zero, List.getD_cons_succ, List.length_cons, and_true]
    constructor
    · rintro ⟨rfl, rfl⟩; exact ⟨by omega, rfl, rfl⟩
    · rintro ⟨_, h1, h2⟩; exact ⟨UInt8.toNat_inj.1 h1.symm, UInt8.toNat_inj.1 h2.symm⟩
theorem pre3 (a b c : UInt8) (l : List UInt8) : [a, b, c].isPrefixOf l = true ↔ 2 < l.length ∧ by' l 0 = a.toNat ∧ by' l 1 = b.toNat ∧ by' l 2 = c.toNat := by
  match l with
  | [] => simp
  | [x] => simp
  | [x, y] => simp
  | x :: y :: z :: l =>
    simp only [List.isPrefixOf, Bool.and_eq_true, beq_iff_eq, by', List.getD_cons_zero, List.getD_cons_succ, List.length_cons, and_true]
    constructor
    · rintro ⟨rfl, rfl, rfl⟩; exact ⟨by omega, rfl, rfl, rfl⟩
    · rintro ⟨_, h1, h2, h3⟩; exact ⟨UInt8.toNat_inj.1 h1.symm, UInt8.toNat_inj.1 h2.symm, UInt8.toNat_inj.1 h3.symm⟩
theorem short_hit {l : List UInt8} {k : Nat} (hk : k < 7) (h : (wd k).isPrefixOf l = true) : shortB l = (wd k).length := by
  unfold shortB
  match k, hk with
  | 0, _ => rw [show wd 0 = [39, 115] from rfl, pre2] at h; obtain ⟨h1, h2, h3⟩ := h; rw [if_neg (by rw [h2]; simp; omega), if_pos (.inl h3)]; rfl
  | 1, _ => rw [show wd 1 = [39, 116] from rfl, pre2] at h; obtain ⟨h1, h2, h3⟩ := h; rw [if_neg (by rw [h2]; simp; omega), if_pos (.inr (.inl h3))]; rfl
  | 2, _ => rw [show wd 2 = [39, 109] from rfl, pre2] at h; obtain ⟨h1, h2, h3⟩ := h; rw [if_neg (by rw [h2]; simp; omega), if_pos (.inr (.inr (.inl h3)))]; rfl
  | 3, _ => rw [show wd 3 = [39, 100] from rfl, pre2] at h; obtain ⟨h1, h2, h3⟩ := h; rw [if_neg (by rw [h2]; simp; omega), if_pos (.inr (.inr (.inr h3)))]; rfl
  | 4, _ => rw [show wd 4 = [39, 114, 101] from rfl, pre3] at h; obtain ⟨h1, h2, h3, h4⟩ := h; rw [if_neg (by rw [h2]; simp; omega), if_neg (by rw [h3]; decide), if_pos ⟨h1, .inl ⟨h3, h4⟩⟩]; rfl
  | 5, _ => rw [show wd 5 = [39, 118, 101] from rfl, pre3] at h; obtain ⟨h1, h2, h3, h4⟩ := h; rw [if_neg (by rw [h2]; simp; omega), if_neg (by rw [h3]; decide), if_pos ⟨h1, .inr (.inl ⟨h3, h4⟩)⟩]; rfl
  | 6, _ => rw [show wd 6 = [39, 108, 108] from rfl, pre3] at h; obtain ⟨h1, h2, h3, h4⟩ := h; rw [if_neg (by rw [h2]; simp; omega), if_neg (by rw [h3]; decide), if_pos ⟨h1, .inr (.inr ⟨h3, h4⟩)⟩]; rfl
theorem short_none {l : List UInt8} (h : ∀ k, k < 7 → (wd k).isPrefixOf l = false) : shortB l = 0 := by
  have g : ∀ k, k < 7 → ¬ (wd k).isPrefixOf l = true := fun k hk => by rw [h k hk]; simp
  have g0 := g 0 (by decide); have g1 := g 1 (by decide); have g2 := g 2 (by decide); have g3 := g 3 (by decide); have g4 := g 4 (by decide); have g5 := g 5 (by decide); have g6 := g 6 (by decide)
  rw [show wd 0 = [39, 115] from rfl, pre2] at g0
  rw [show wd 1 = [39, 116] from rfl, pre2] at g1
  rw [show wd 2 = [39, 109] from rfl, pre2] at g2
  rw [show wd 3 = [39, 100] from rfl, pre2] at g3
  rw [show wd 4 = [39, 114, 101] from rfl, pre3] at g4
  rw [show wd 5 = [39, 118, 101] from rfl, pre3] at g5
  rw [show wd 6 = [39, 108, 108] from rfl, pre3] at g6
  simp at g0 g1 g2 g3 g4 g5 g6
  unfold shortB
  split
  · rfl
  · rename_i h1
    rw [not_or, Decidable.not_not] at h1
    rw [if_neg, if_neg]
    · rintro ⟨h2, h3⟩; omega
    · rintro h2; omega
theorem wd_len (k : Nat) : (wd k).length = 2 ∨ (wd k).length = 3 := by
  unfold wd
  split <;> simp

set_option maxRecDepth 100000 in
theorem sort_calls (k : Int) (w : World) : Calls Tryd.prog 105 #[.int .i64 k] w fun e w' => e = .returned (.int .i64 (sortOf k)) ∧ w = w' := by
  unfold sortOf
  by_cases h1 : k = 1
  · subst h1
    go_enter Tryd.func105, Tryd.ntmps105
    go_wp2
    go_ret
    exact ⟨rfl, rfl⟩
  · have e1 : (k == 1) = false := by simp [h1]
    by_cases h2 : k = 2
    · subst h2
      go_enter Tryd.func105, Tryd.ntmps105
      go_wp2
      go_ret
      exact ⟨rfl, rfl⟩
    · have e2 : (k == 2) = false := by simp [h2]
      rw [if_neg h1, if_neg h2]
      clear h1 h2
      go_enter Tryd.func105, Tryd.ntmps105
      go_wp2
      go_ret
      exact ⟨rfl, rfl⟩

def wv (k : Nat) : ByteArray := ⟨(wd k).toArray⟩
theorem wv_list (k : Nat) : (wv k).data.toList = wd k := rfl
theorem wv_size (k : Nat) : (wv k).size = (wd k).length := rfl

set_option maxHeartbeats 1000000 in
set_option maxRecDepth 100000 in
theorem short_calls (s : ByteArray) (w : World) : Calls Tryd.prog 103 #[.string s] w fun e w' => e = .returned (.int .i64 (shortB s.data.toList)) ∧ Below w.heap.size w w' := by
  obtain ⟨W1, hW1⟩ : ∃ Xz, w.alloc (.cells #[.string { data := #[39, 115] }, .string { data := #[39, 116] }, .string { data := #[39, 109] }, .string { data := #[39, 100] }, .string { data := #[39, 114, 101] }, .string { data := #[39, 118, 101] }, .string { data := #[39, 108, 108] }] 9) = Xz := ⟨_, rfl⟩
  obtain ⟨b, hb⟩ : ∃ xz, w.heap.size = xz := ⟨_, rfl⟩
  have hb1 : Below w.heap.size w W1 := by rw [← hW1]; exact (Below.refl _ _).alloc (Nat.le_refl _) _
  have H := Lib.hid (by rw [← hW1, ← hb]; exact alloc_new rfl : W1.heap[b]? = some (.cells #[.string { data := #[39, 115] }, .string { data := #[39, 116] }, .string { data := #[39, 109] }, .string { data := #[39, 100] }, .string { data := #[39, 114, 101] }, .string { data := #[39, 118, 101] }, .string { data := #[39, 108, 108] }] 9 (0, 0)))
  have EW1 := Lib.hid hW1
  have Eb := Lib.hid hb
  clear hW1 hb
  have HB := Lib.hid hb1
  have hc : ∀ k, k < 7 → W1.cell? ⟨b, k, none⟩ = some (.string (wv k)) := fun k hk => by
    rw [cell_at H.out]
    match k, hk with
    | 0, _ => rfl
    | 1, _ => rfl
    | 2, _ => rfl
    | 3, _ => rfl
    | 4, _ => rfl
    | 5, _ => rfl
    | 6, _ => rfl
  have HC := Lib.hid hc
  have hz := lt_of_heap H.out
  clear hc hb1
  go_enter Tryd.func103, Tryd.ntmps103
  go_upto_region 2 with fail
  rw [EW1.out, Eb.out]
  clear EW1 Eb
  go_loopg [7] 7 (fun g s7 wr => ∃ k : Nat, k ≤ 7 ∧ g = 7 - k ∧ s7 = .int .i64 k ∧ Below W1.heap.size W1 wr ∧ ∀ j, j < k → (wd j).isPrefixOf s.data.toList = false)
  case atStart => exact ⟨0, by omega, by omega, rfl, Below.refl _ _, fun j hj => by omega⟩
  case round =>
    obtain ⟨k, hk, hg, rfl, hb, hno⟩ := hrel
    have HG := Lib.hid hg
    have HNO := Lib.hid hno
    have HBR := Lib.hid hb
    clear hg hno
    by_cases hlt : k < 7
    · have hlti : (k : Int) < 7 := by omega
      have hk0 : (wr.cell? ⟨b, k, none⟩) = some (.string (wv k)) := (hb.cell (p := ⟨b, k, none⟩) hz).trans (HC.out k hlt)
      have hsl : s.data.toList = s.data.toList := rfl
      have HP := Lib.hid (fun w => Shelf.strings_HasPrefix s (wv k) w)
      unfold Lib.hasPrefix at HP
      rw [wv_list] at HP
      have HH := Lib.hid (fun h => short_hit (l := s.data.toList) hlt h)
      have hzk := wv_size k
      obtain ⟨vk, hvk⟩ : ∃ z, wv k = z := ⟨_, rfl⟩
      rw [hvk] at hk0 HP hzk
      obtain ⟨p, hp⟩ : ∃ p, (wd k).isPrefixOf s.data.toList = p := ⟨_, rfl⟩
      rw [hp] at HP HH
      have HPP := Lib.hid hp
      have HZ := Lib.hid hzk
      clear hb hsl hvk hp hzk
      go_wp2_with fail
      refine (HP.out wr).mono ?_
      rintro e w' ⟨rfl, rfl⟩
      cases p with
      | true =>
        go_wp2_with fail
        go_ret
        exact ⟨ret_int (by rw [HZ.out, HH.out trivial]), chain HB.out HBR.out⟩
      | false =>
        go_wp2_with fail
        go_roundg (7 - (k + 1))
        case measure => have := HG.out; omega
        case rel => exact ⟨k + 1, by omega, rfl, by go_num, HBR.out, fun j hj => (Nat.lt_or_ge j k).elim (HNO.out j) (fun h => by rw [show j = k by omega]; exact HPP.out)⟩
    · have hk7 : k = 7 := by omega
      subst hk7
      go_wp2_with fail
      go_ret
      exact ⟨ret_int (by rw [short_none HNO.out]; rfl), chain HB.out HBR.out⟩

set_option maxHeartbeats 1000000 in
set_option maxRecDepth 100000 in
theorem next_calls (D : Dt) (mb : Nat) (s : ByteArray) (w : World) (h : Mod w mb D) (hT : Tabs w) (hl : s.size ≤ 140737488355328) (hs : 0 < s.size) :
    Calls Tryd.prog 71 #[.pointer (some ⟨mb, 0, none⟩), .string s] w fun e w' => e = .returned (.tuple #[.int .i64 (nextB D s.data.toList).1, .int .i64 (nextB D s.data.toList).2]) ∧ Below w.heap.size w w' := by
  have HM := Lib.hid h
  have HT := Lib.hid hT
  have hsz := size_list s
  have hne : s.data.toList ≠ [] := by
    intro h
    rw [h] at hsz
    simp at hsz
    omega
  have HS := Lib.hid (short_calls s w)
  have HR := Lib.hid (fun W (hb : Below w.heap.size w W) => run_calls D mb s W (h.below hb) (hT.below hb) hl)
  have HR1 := Lib.hid (fun W (hb : Below w.heap.size w W) => run_calls D mb (s.extract 1 s.size) W (h.below hb) (hT.below hb) (by simp; omega))
  rw [drop_list s 1 s.size rfl] at HR1
  obtain ⟨x0, hx0⟩ : ∃ x0, s.get! 0 = x0 := ⟨_, rfl⟩
  have hs0 : s[0]'hs = x0 := by rw [← hx0]; exact (Utf8W.get!_of_lt s 0 hs).symm
  have hy0 : x0.toNat = by' s.data.toList 0 := by rw [← hx0]; exact get_by s 0 hs
  have hbl := runB_le D s.data.toList
  have hbg := runB_last (D := D) hne
  have hb1 := runB_le D (s.data.toList.drop 1)
  rw [List.length_drop] at hb1
  rw [hsz] at hbl hb1
  have HNX := Lib.hid (rfl : nextB D s.data.toList = nextB D s.data.toList)
  have hnx : nextB D s.data.toList = if shortB s.data.toList ≠ 0 then (shortB s.data.toList, 1) else if headK D s.data.toList ≠ 3 then (runB D s.data.toList, sortOf (headK D s.data.toList)) else if by' s.data.toList 0 = 32 ∧ runB D s.data.toList = 1 ∧ 1 < s.size then (1 + runB D (s.data.toList.drop 1), sortOf (headK D (s.data.toList.drop 1))) else if runB D s.data.toList < s.size ∧ lastB D s.data.toList < runB D s.data.toList then (runB D s.data.toList - lastB D s.data.toList, 5) else (runB D s.data.toList, 5) := by
    rw [← hsz]; rfl
  obtain ⟨N, hN⟩ : ∃ N, nextB D s.data.toList = N := ⟨_, rfl⟩
  rw [hN] at hnx ⊢
  obtain ⟨sh, hsh⟩ : ∃ z, shortB s.data.toList = z := ⟨_, rfl⟩
  obtain ⟨rb, hrb⟩ : ∃ z, runB D s.data.toList = z := ⟨_, rfl⟩
  obtain ⟨la, hla⟩ : ∃ z, lastB D s.data.toList = z := ⟨_, rfl⟩
  obtain ⟨hk, hhk⟩ : ∃ z, headK D s.data.toList = z := ⟨_, rfl⟩
  obtain ⟨r1, hr1⟩ : ∃ z, runB D (s.data.toList.drop 1) = z := ⟨_, rfl⟩
  obtain ⟨h1, hh1⟩ : ∃ z, headK D (s.data.toList.drop 1) = z := ⟨_, rfl⟩
  rw [hsh] at HS hnx
  rw [hrb, hla, hhk] at HR
  rw [hrb, hla, hhk, hr1, hh1, ← hy0] at hnx
  rw [hrb] at hbl hbg
  rw [hla] at hbg
  rw [hr1] at hb1
  rw [hr1, hh1] at HR1
  have hsz8 : (s.size : Int) ≤ 140737488355328 := by omega
  have HBS := Lib.hid (And.intro hbl (And.intro hbg hb1))
  clear hsz hne hx0 hy0 hN hsh hrb hla hhk hr1 hh1 h hT HNX hbl hbg hb1
  go_enter Tryd.func71, Tryd.ntmps71
  go_wp2_with fail
  refine HS.out.mono ?_
  rintro e W1 ⟨rfl, hB1⟩
  have HB := Lib.hid hB1
  clear hB1
  by_cases c1 : sh ≠ 0
  · rw [if_pos c1] at hnx
    have c1' : (0 : Int) < sh := by omega
    have HNX := Lib.hid hnx
    clear hnx
    go_wp2_with fail
    refine bodyPost_ret (v := .tuple #[.int .i64 sh, .int .i64 1]) (by simp [results, Tryd.results71, go_sem, *]) rfl (⟨by rw [HNX.out]; rfl, HB.out⟩)
  rw [if_neg c1] at hnx
  have c1' : ¬ ((0 : Int) < sh) := by omega
  go_wp2_with fail
  refine (HR.out W1 HB.out).mono ?_
  rintro e W2 ⟨rfl, hB2⟩
  have HB := Lib.hid (chain HB.out hB2)
  clear hB2 c1
  by_cases c2 : hk ≠ 3
  · rw [if_pos c2] at hnx
    have c2' : (hk != 3) = true := by simpa using c2
    have HNX := Lib.hid hnx
    clear hnx c2
    go_wp2_with fail
    refine (sort_calls hk W2).mono ?_
    rintro e w' ⟨rfl, rfl⟩
    go_wp2_with fail
    refine bodyPost_ret (v := .tuple #[.int .i64 rb, .int .i64 (sortOf hk)]) (by simp [results, Tryd.results71, go_sem, *]) rfl (⟨by rw [HNX.out], HB.out⟩)
  rw [if_neg c2] at hnx
  have c2' : (hk != 3) = false := by simpa using c2
  clear c2
  by_cases c3 : x0.toNat = 32 ∧ rb = 1 ∧ 1 < s.size
  · rw [if_pos c3] at hnx
    obtain ⟨c3, c4, c5⟩ := c3
    have c3' : ((x0.toNat : Int) == 32) = true := by simp [c3]
    have c5' : (1 : Int) < s.size := by omega
    have HNX := Lib.hid hnx
    subst c4
    have hw : IntKind.i64.wrap (1 + (r1 : Int)) = 1 + (r1 : Int) := i64w _ (by omega) (by have := HBS.out.2.2; omega)
    have H3 := Lib.hid (And.intro c3 c5)
    clear hnx c3 c5
    go_wp2_with fail
    refine (HR1.out W2 HB.out).mono ?_
    rintro e W3 ⟨rfl, hB3⟩
    have HB := Lib.hid (chain HB.out hB3)
    clear hB3
    go_wp2_with fail
    refine (sort_calls h1 W3).mono ?_
    rintro e w' ⟨rfl, rfl⟩
    go_wp2_with fail
    refine bodyPost_ret (v := .tuple #[.int .i64 (1 + (r1 : Int)), .int .i64 (sortOf h1)]) (by simp [results, Tryd.results71, go_sem, *]) rfl (⟨by rw [HNX.out]; simp, HB.out⟩)
  rw [if_neg c3] at hnx
  have e3 : ((x0.toNat : Int) == 32) = decide (x0.toNat = 32) := by
    by_cases h : x0.toNat = 32
    · simp [h]
    · simp only [h, decide_false, beq_eq_false_iff_ne]; omega
  have HC3 := Lib.hid c3
  have fin : ∀ b, Below w.heap.size w b → N = N := fun _ _ => rfl
  by_cases d1 : x0.toNat = 32
  · by_cases d2 : rb = 1
    · have d3 : ¬ ((1 : Int) < s.size) := by omega
      have d1' : ((x0.toNat : Int) == 32) = true := by simp [d1]
      have d2' : ((rb : Int) == 1) = true := by simp [d2]
      have f2 : ¬ ((rb : Int) < s.size) := by omega
      rw [if_neg (by omega)] at hnx
      have HNX := Lib.hid hnx
      clear e3 d1 d2 c3 fin hnx
      go_wp2_with fail
      refine bodyPost_ret (v := .tuple #[.int .i64 (rb : Int), .int .i64 5]) (by simp [results, Tryd.results71, go_sem, *]) rfl (⟨by rw [HNX.out]; rfl, HB.out⟩)
    · have d1' : ((x0.toNat : Int) == 32) = true := by simp [d1]
      have d2' : ((rb : Int) == 1) = false := by simp; omega
      clear e3 d1 d2 c3 fin
      by_cases f1 : rb < s.size ∧ la < rb
      · rw [if_pos f1] at hnx
        have f2 : (rb : Int) < s.size := by omega
        have f3 : (la : Int) < rb := by omega
        have hw : IntKind.i64.wrap ((rb : Int) - la) = (rb : Int) - la := i64w _ (by omega) (by omega)
        have hq : ((rb - la : Nat) : Int) = (rb : Int) - la := by omega
        have HQ := Lib.hid hq
        have HNX := Lib.hid hnx
        clear hnx f1 hq
        go_wp2_with fail
        refine bodyPost_ret (v := .tuple #[.int .i64 ((rb : Int) - la), .int .i64 5]) (by simp [results, Tryd.results71, go_sem, *]) rfl (⟨by rw [HNX.out, ← HQ.out]; rfl, HB.out⟩)
      · rw [if_neg f1] at hnx
        have HNX := Lib.hid hnx
        clear hnx
        by_cases f2 : (rb : Int) < s.size
        · have f3 : ¬ ((la : Int) < rb) := by omega
          clear f1
          go_wp2_with fail
          refine bodyPost_ret (v := .tuple #[.int .i64 (rb : Int), .int .i64 5]) (by simp [results, Tryd.results71, go_sem, *]) rfl (⟨by rw [HNX.out]; rfl, HB.out⟩)
        · clear f1
          go_wp2_with fail
          refine bodyPost_ret (v := .tuple #[.int .i64 (rb : Int), .int .i64 5]) (by simp [results, Tryd.results71, go_sem, *]) rfl (⟨by rw [HNX.out]; rfl, HB.out⟩)
  · have d1' : ((x0.toNat : Int) == 32) = false := by simp; omega
    clear e3 d1 c3 fin
    by_cases f1 : rb < s.size ∧ la < rb
    · rw [if_pos f1] at hnx
      have f2 : (rb : Int) < s.size := by omega
      have f3 : (la : Int) < rb := by omega
      have hw : IntKind.i64.wrap ((rb : Int) - la) = (rb : Int) - la := i64w _ (by omega) (by omega)
      have hq : ((rb - la : Nat) : Int) = (rb : Int) - la := by omega
      have HQ := Lib.hid hq
      have HNX := Lib.hid hnx
      clear hnx f1 hq
      go_wp2_with fail
      refine bodyPost_ret (v := .tuple #[.int .i64 ((rb : Int) - la), .int .i64 5]) (by simp [results, Tryd.results71, go_sem, *]) rfl (⟨by rw [HNX.out, ← HQ.out]; rfl, HB.out⟩)
    · rw [if_neg f1] at hnx
      have HNX := Lib.hid hnx
      clear hnx
      by_cases f2 : (rb : Int) < s.size
      · have f3 : ¬ ((la : Int) < rb) := by omega
        clear f1
        go_wp2_with fail
        refine bodyPost_ret (v := .tuple #[.int .i64 (rb : Int), .int .i64 5]) (by simp [results, Tryd.results71, go_sem, *]) rfl (⟨by rw [HNX.out]; rfl, HB.out⟩)
      · clear f1
        go_wp2_with fail
        refine bodyPost_ret (v := .tuple #[.int .i64 (rb : Int), .int .i64 5]) (by simp [results, Tryd.results71, go_sem, *]) rfl (⟨by rw [HNX.out]; rfl, HB.out⟩)
end Go.Proofs.YtendkmldecoogaaDoor.CutNext
