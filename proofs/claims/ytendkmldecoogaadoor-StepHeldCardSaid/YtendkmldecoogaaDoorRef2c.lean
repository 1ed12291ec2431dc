/-
  The reference's items, first part: need, second, fits, Width, Begins. The reference's items, second part: Width, Begins, read. The reference's items, third part: Complete, Items.
-/
import Derived.Test.YtendkmldecoogaaDoorIt
import Derived.Test.YtendkmldecoogaaDoorItGo
import Derived.Test.YtendkmldecoogaaDoorCollect
import Derived.Test.YtendkmldecoogaaDoorCu
namespace Go.Proofs.YtendkmldecoogaaDoor.Ref2a
open Go Go.RowKit Go.Proofs.YtendkmldecoogaaDoor.Kit Go.Proofs.YtendkmldecoogaaDoor.Utf Go.Proofs.YtendkmldecoogaaDoor.It Go.Proofs.YtendkmldecoogaaDoor.ItGo
attribute [local irreducible] wpQuiet

/-- Byte k of a text. -/
theorem at_by (s : ByteArray) (k : Nat) (h : k < s.size) : ∃ x : UInt8, s[k]'h = x ∧ x.toNat = by' s.data.toList k := by
  refine ⟨s.get! k, ?_, get_by s k h⟩
  exact (Utf8W.get!_of_lt s k h).symm

set_option maxRecDepth 100000 in
theorem need_calls (c : Nat) (w : World) : Calls Tryd.prog 115 #[.int .u8 c] w fun e w' => e = .returned (.int .i64 (need c)) ∧ w = w' := by
  unfold need
  by_cases h1 : 194 ≤ c
  · have e1 : (194 : Int) ≤ c := by omega
    by_cases h2 : c ≤ 223
    · have e2 : (c : Int) ≤ 223 := by omega
      rw [if_pos ⟨h1, h2⟩]
      clear h1 h2
      go_enter Tryd.func115, Tryd.ntmps115
      go_wp2
      go_ret
      exact ⟨rfl, rfl⟩
    · have e2 : ¬ ((c : Int) ≤ 223) := by omega
      have e3 : (224 : Int) ≤ c := by omega
      rw [if_neg (by omega)]
      by_cases h3 : c ≤ 239
      · have e4 : (c : Int) ≤ 239 := by omega
        rw [if_pos (by omega)]
        clear h1 h2 h3
        go_enter Tryd.func115, Tryd.ntmps115
        go_wp2
        go_ret
        exact ⟨rfl, rfl⟩
      · have e4 : ¬ ((c : Int) ≤ 239) := by omega
        have e5 : (240 : Int) ≤ c := by omega
        rw [if_neg (by omega)]
        by_cases h4 : c ≤ 244
        · have e6 : (c : Int) ≤ 244 := by omega
          rw [if_pos (by omega)]
          clear h1 h2 h3 h4
          go_enter Tryd.func115, Tryd.ntmps115
          go_wp2
          go_ret
          exact ⟨rfl, rfl⟩
        · have e6 : ¬ ((c : Int) ≤ 244) := by omega
          rw [if_neg (by omega)]
          clear h1 h2 h3 h4
          go_enter Tryd.func115, Tryd.ntmps115
          go_wp2
          go_ret
          exact ⟨rfl, rfl⟩
  · have e1 : ¬ ((194 : Int) ≤ c) := by omega
    have e2 : ¬ ((224 : Int) ≤ c) := by omega
    have e3 : ¬ ((240 : Int) ≤ c) := by omega
    rw [if_neg (by omega), if_neg (by omega), if_neg (by omega)]
    clear h1
    go_enter Tryd.func115, Tryd.ntmps115
    go_wp2
    go_ret
    exact ⟨rfl, rfl⟩

theorem second_val (c d lo hi : Nat) (h1 : (if c = 224 then 160 else if c = 240 then 144 else 128) = lo) (h2 : (if c = 237 then 159 else if c = 244 then 143 else 191) = hi) : second c d = (decide ((lo : Int) ≤ d) && decide ((d : Int) ≤ hi)) := by
  unfold second
  rw [h1, h2, ← Bool.decide_and]
  apply decide_eq_decide.2
  omega

set_option maxRecDepth 100000 in
theorem second_calls (c d : Nat) (w : World) : Calls Tryd.prog 144 #[.int .u8 c, .int .u8 d] w fun e w' => e = .returned (.bool (second c d)) ∧ w = w' := by
  have fin : ∀ (lo hi : Nat) (b1 b2 b3 b4 : Bool), ((c : Int) == 224) = b1 → ((c : Int) == 237) = b2 → ((c : Int) == 240) = b3 → ((c : Int) == 244) = b4 → (if b3 = true then 144 else if b1 = true then 160 else 128) = lo → (if b4 = true then 143 else if b2 = true then 159 else 191) = hi → second c d = (decide ((lo : Int) ≤ d) && decide ((d : Int) ≤ hi)) := by
    intro lo hi b1 b2 b3 b4 h1 h2 h3 h4 h5 h6
    refine second_val c d lo hi ?_ ?_
    · subst h1 h3
      rw [← h5]
      simp only [beq_iff_eq]
      by_cases q1 : c = 224
      · rw [if_pos q1, if_neg (by omega), if_pos (by omega)]
      · by_cases q2 : c = 240
        · rw [if_neg q1, if_pos q2, if_pos (by omega)]
        · rw [if_neg q1, if_neg q2, if_neg (by omega), if_neg (by omega)]
    · subst h2 h4
      rw [← h6]
      simp only [beq_iff_eq]
      by_cases q1 : c = 237
      · rw [if_pos q1, if_neg (by omega), if_pos (by omega)]
      · by_cases q2 : c = 244
        · rw [if_neg q1, if_pos q2, if_pos (by omega)]
        · rw [if_neg q1, if_neg q2, if_neg (by omega), if_neg (by omega)]
  obtain ⟨b1, h1⟩ : ∃ b, ((c : Int) == 224) = b := ⟨_, rfl⟩
  obtain ⟨b2, h2⟩ : ∃ b, ((c : Int) == 237) = b := ⟨_, rfl⟩
  obtain ⟨b3, h3⟩ : ∃ b, ((c : Int) == 240) = b := ⟨_, rfl⟩
  obtain ⟨b4, h4⟩ : ∃ b, ((c : Int) == 244) = b := ⟨_, rfl⟩
  obtain ⟨lo, h5⟩ : ∃ z : Nat, (if b3 = true then 144 else if b1 = true then 160 else 128) = z := ⟨_, rfl⟩
  obtain ⟨hi, h6⟩ : ∃ z : Nat, (if b4 = true then 143 else if b2 = true then 159 else 191) = z := ⟨_, rfl⟩
  have HS := Lib.hid (fin lo hi b1 b2 b3 b4 h1 h2 h3 h4 h5 h6)
  clear fin
  cases b1 <;> cases b2 <;> cases b3 <;> cases b4 <;> simp only [if_true, Bool.false_eq_true, if_false] at h5 h6 <;> subst h5 h6
  all_goals (
    go_enter Tryd.func144, Tryd.ntmps144
    go_wp2)
  all_goals (go_ret; refine ⟨?_, rfl⟩; rw [HS.out]; (try simp [*]) <;> (try omega))

theorem fits_more {l : List UInt8} {most f n : Nat} (h : n < most) (h2 : n < l.length) (hk : ok l n = true) : fitsF l most (f + 1) n = fitsF l most f (n + 1) := by
  simp only [fitsF]
  rw [if_pos ⟨h, h2⟩, if_pos hk]
theorem fits_end {l : List UInt8} {most f n : Nat} (h : ¬ (n < most ∧ n < l.length) ∨ ok l n = false) : fitsF l most f n = n := by
  cases f with
  | zero => rfl
  | succ f =>
    simp only [fitsF]
    split
    · rename_i h1
      rcases h with h | h
      · exact absurd h1 h
      · rw [if_neg (by rw [h]; simp)]
    · rfl

set_option maxHeartbeats 1000000 in
set_option maxRecDepth 100000 in
theorem fits_calls (s : ByteArray) (a most : Nat) (w : World) (ha : a < s.size) (hm : most ≤ 4) (hs : s.size ≤ 140737488355328) :
    Calls Tryd.prog 116 #[.string s, .int .i64 a, .int .i64 most] w fun e w' => e = .returned (.int .i64 (fits (s.data.toList.drop a) most)) ∧ w = w' := by
  obtain ⟨l, hl⟩ : ∃ l, s.data.toList.drop a = l := ⟨_, rfl⟩
  rw [hl]
  have hlen : l.length = s.size - a := by rw [← hl, List.length_drop, size_list]
  have hby : ∀ k, by' l k = by' s.data.toList (a + k) := fun k => by rw [← hl, by_drop]
  have HB := Lib.hid hby
  have HLEN := Lib.hid hlen
  obtain ⟨R, hR⟩ : ∃ R, fits l most = R := ⟨_, rfl⟩
  rw [hR]
  have HR := Lib.hid hR
  clear hl hlen hby hR
  go_enter Tryd.func116, Tryd.ntmps116
  go_wp2_with fail
  go_loopg [7, 8] 4 (fun g s7 s8 wr => ∃ n : Nat, 1 ≤ n ∧ n ≤ 5 ∧ g = 5 - n ∧ s7 = .int .i64 n ∧ fitsF l most (5 - n) n = R ∧ wr = w)
  case atStart => exact ⟨1, by decide, by decide, rfl, rfl, HR.out, rfl⟩
  case round =>
    obtain ⟨n, hn1, hn5, hg, rfl, hf, rfl⟩ := hrel
    have HG := Lib.hid hg
    have HF := Lib.hid hf
    have hlen := HLEN.out
    clear hg hf
    have w1 : IntKind.i64.wrap ((a : Int) + n) = (a : Int) + n := i64w _ (by omega) (by omega)
    by_cases h1 : n < most
    · have h1' : (n : Int) < most := by omega
      by_cases h2 : n < l.length
      · have h2' : (a : Int) + n < s.size := by omega
        have h3' : a + n < s.size := by omega
        obtain ⟨x, hx, hxb⟩ := at_by s (a + n) h3'
        obtain ⟨y, hy, hyb⟩ := at_by s a ha
        rw [← HB.out] at hxb
        have hyc : y.toNat = by' l 0 := by rw [HB.out, Nat.add_zero]; exact hyb
        have i1 : ((a : Int) + n).toNat = a + n := by omega
        have HX := Lib.hid hxb
        have HY := Lib.hid hyc
        have HN := Lib.hid hlen
        clear hxb hyb hyc hlen
        by_cases hn : n = 1
        · subst hn
          obtain ⟨b, hb⟩ : ∃ b, second y.toNat x.toNat = b := ⟨_, rfl⟩
          have hok : ok l 1 = b := by rw [← hb, HY.out, HX.out]; rfl
          have HC := Lib.hid (fun w => second_calls y.toNat x.toNat w)
          rw [hb] at HC
          have HOK := Lib.hid hok
          clear hb hok
          go_wp2_with fail
          refine (HC.out wr).mono ?_
          rintro e w' ⟨rfl, rfl⟩
          cases b with
          | true =>
            have hf0 : fitsF l most (3 + 1) 1 = R := HF.out
            rw [fits_more h1 h2 HOK.out] at hf0
            have HF2 := Lib.hid hf0
            clear hf0
            go_wp2_with fail
            go_roundg (5 - (1 + 1))
            case measure => have := HG.out; omega
            case rel => exact ⟨1 + 1, by decide, by decide, rfl, by go_num, by first | exact HF2.out | (rw [show 5 - (1 + 1) = 3 from rfl]; exact HF2.out), rfl⟩
          | false =>
            have HE := Lib.hid (HF.out.symm.trans (fits_end (.inr HOK.out)))
            go_wp2_with fail
            go_ret
            exact ⟨ret_int (by rw [HE.out]; rfl), rfl⟩
        · have hok : ok l n = (decide (128 ≤ x.toNat) && decide (x.toNat ≤ 191)) := by
            unfold ok
            rw [if_neg hn, ← HX.out, ← Bool.decide_and]
          have hne : ((n : Int) == 1) = false := by rw [beq_eq_false_iff_ne]; omega
          have hgt : (1 : Int) < n := by omega
          have HOK := Lib.hid hok
          clear hok hn
          by_cases q1 : 128 ≤ x.toNat
          · have q1' : ¬ ((x.toNat : Int) < 128) := by omega
            by_cases q2 : x.toNat ≤ 191
            · have q2' : ¬ ((191 : Int) < x.toNat) := by omega
              have hf0 : fitsF l most (5 - (n + 1) + 1) n = R := by rw [show 5 - (n + 1) + 1 = 5 - n by omega]; exact HF.out
              rw [fits_more h1 h2 (by rw [HOK.out]; simp [q1, q2])] at hf0
              have HF2 := Lib.hid hf0
              clear hf0
              clear q1 q2
              go_wp2_with fail
              go_roundg (5 - (n + 1))
              case measure => have := HG.out; omega
              case rel => exact ⟨n + 1, by omega, by omega, rfl, by go_num, HF2.out, rfl⟩
            · have q2' : (191 : Int) < x.toNat := by omega
              have HE := Lib.hid (HF.out.symm.trans (fits_end (.inr (by rw [HOK.out]; simp [q2]))))
              clear q1 q2
              go_wp2_with fail
              go_ret
              exact ⟨ret_int (by rw [HE.out]), rfl⟩
          · have q1' : (x.toNat : Int) < 128 := by omega
            have HE := Lib.hid (HF.out.symm.trans (fits_end (.inr (by rw [HOK.out]; simp [q1]))))
            clear q1
            go_wp2_with fail
            go_ret
            exact ⟨ret_int (by rw [HE.out]), rfl⟩
      · have h2' : ¬ ((a : Int) + n < s.size) := by omega
        have HE := Lib.hid (HF.out.symm.trans (fits_end (.inl (by omega))))
        clear hlen
        go_wp2_with fail
        go_ret
        exact ⟨ret_int (by rw [HE.out]), rfl⟩
    · have h1' : ¬ ((n : Int) < most) := by omega
      have HE := Lib.hid (HF.out.symm.trans (fits_end (.inl (by omega))))
      clear hlen
      go_wp2_with fail
      go_ret
      exact ⟨ret_int (by rw [HE.out]), rfl⟩
end Go.Proofs.YtendkmldecoogaaDoor.Ref2a
namespace Go.Proofs.YtendkmldecoogaaDoor.Ref2b
open Go Go.RowKit Go.Proofs.YtendkmldecoogaaDoor.Kit Go.Proofs.YtendkmldecoogaaDoor.Utf Go.Proofs.YtendkmldecoogaaDoor.It Go.Proofs.YtendkmldecoogaaDoor.ItGo Go.Proofs.YtendkmldecoogaaDoor.Ref2a
attribute [local irreducible] wpQuiet

theorem need_le (c : Nat) : need c ≤ 4 := by
  unfold need
  split
  · omega
  · split
    · omega
    · split <;> omega

set_option maxRecDepth 100000 in
theorem Width_calls (s : ByteArray) (a : Nat) (w : World) (ha : a < s.size) (hs : s.size ≤ 140737488355328) :
    Calls Tryd.prog 82 #[.string s, .int .i64 a] w fun e w' => e = .returned (.int .i64 (width (s.data.toList.drop a))) ∧ w = w' := by
  obtain ⟨x, hx, hxb⟩ := at_by s a ha
  obtain ⟨l, hl⟩ : ∃ l, s.data.toList.drop a = l := ⟨_, rfl⟩
  have hb0 : by' l 0 = x.toNat := by rw [← hl, by_drop, Nat.add_zero]; exact hxb.symm
  have HF := Lib.hid (fun w m hm => fits_calls s a m w ha hm hs)
  rw [hl] at HF ⊢
  have hd : width l = if x.toNat < 128 then 1 else if need x.toNat = 0 ∨ fits l (need x.toNat) < need x.toNat then 0 else need x.toNat := by unfold width; rw [hb0]
  have HN := Lib.hid (need_calls x.toNat)
  have hn4 := need_le x.toNat
  obtain ⟨n, hn⟩ : ∃ n, need x.toNat = n := ⟨_, rfl⟩
  rw [hn] at hd HN hn4
  obtain ⟨q, hq⟩ : ∃ q, fits l n = q := ⟨_, rfl⟩
  have HQ := Lib.hid (fun w => by have := HF.out w n hn4; rw [hq] at this; exact this : ∀ w, Calls Tryd.prog 116 #[.string s, .int .i64 a, .int .i64 n] w fun e w' => e = .returned (.int .i64 q) ∧ w = w')
  rw [hq] at hd
  clear hxb hl hb0 hn hq
  have haz : (a : Int) < s.size := by omega
  by_cases h1 : x.toNat < 128
  · have h1' : (x.toNat : Int) < 128 := by omega
    rw [if_pos h1] at hd
    have HD := Lib.hid hd
    clear hd h1
    go_enter Tryd.func82, Tryd.ntmps82
    go_wp2_with fail
    go_ret
    exact ⟨ret_int (by rw [HD.out]; rfl), rfl⟩
  have h1' : ¬ ((x.toNat : Int) < 128) := by omega
  rw [if_neg h1] at hd
  clear h1
  by_cases h2 : n = 0
  · subst h2
    rw [if_pos (.inl rfl)] at hd
    have HD := Lib.hid hd
    clear hd
    go_enter Tryd.func82, Tryd.ntmps82
    go_wp2_with fail
    refine (HN.out w).mono ?_
    rintro e w' ⟨rfl, rfl⟩
    go_wp2_with fail
    go_ret
    exact ⟨ret_int (by rw [HD.out]; rfl), rfl⟩
  have h2' : ((n : Int) == 0) = false := by rw [beq_eq_false_iff_ne]; omega
  by_cases h3 : q < n
  · have h3' : (q : Int) < n := by omega
    rw [if_pos (.inr h3)] at hd
    have HD := Lib.hid hd
    clear hd h2 h3
    go_enter Tryd.func82, Tryd.ntmps82
    go_wp2_with fail
    refine (HN.out w).mono ?_
    rintro e w' ⟨rfl, rfl⟩
    go_wp2_with fail
    refine (HQ.out w).mono ?_
    rintro e w' ⟨rfl, rfl⟩
    go_wp2_with fail
    go_ret
    exact ⟨ret_int (by rw [HD.out]; rfl), rfl⟩
  · have h3' : ¬ ((q : Int) < n) := by omega
    rw [if_neg (by omega)] at hd
    have HD := Lib.hid hd
    clear hd h2 h3
    go_enter Tryd.func82, Tryd.ntmps82
    go_wp2_with fail
    refine (HN.out w).mono ?_
    rintro e w' ⟨rfl, rfl⟩
    go_wp2_with fail
    refine (HQ.out w).mono ?_
    rintro e w' ⟨rfl, rfl⟩
    go_wp2_with fail
    go_ret
    exact ⟨ret_int (by rw [HD.out]), rfl⟩

set_option maxRecDepth 100000 in
theorem Begins_calls (s : ByteArray) (a : Nat) (w : World) (ha : a < s.size) (hs : s.size ≤ 140737488355328) :
    Calls Tryd.prog 83 #[.string s, .int .i64 a] w fun e w' => e = .returned (.int .i64 (begins (s.data.toList.drop a))) ∧ w = w' := by
  obtain ⟨x, hx, hxb⟩ := at_by s a ha
  obtain ⟨l, hl⟩ : ∃ l, s.data.toList.drop a = l := ⟨_, rfl⟩
  have hb0 : by' l 0 = x.toNat := by rw [← hl, by_drop, Nat.add_zero]; exact hxb.symm
  have HF := Lib.hid (fun w m hm => fits_calls s a m w ha hm hs)
  rw [hl] at HF ⊢
  have hd : begins l = if need x.toNat = 0 then 0 else fits l (need x.toNat - 1) := by unfold begins; rw [hb0]
  have HN := Lib.hid (need_calls x.toNat)
  have hn4 := need_le x.toNat
  obtain ⟨n, hn⟩ : ∃ n, need x.toNat = n := ⟨_, rfl⟩
  rw [hn] at hd HN hn4
  obtain ⟨q, hq⟩ : ∃ q, fits l (n - 1) = q := ⟨_, rfl⟩
  have HQ := Lib.hid (fun w => by have := HF.out w (n - 1) (by omega); rw [hq] at this; exact this : ∀ w, Calls Tryd.prog 116 #[.string s, .int .i64 a, .int .i64 ((n - 1 : Nat) : Int)] w fun e w' => e = .returned (.int .i64 q) ∧ w = w')
  rw [hq] at hd
  clear hxb hl hb0 hn hq
  have haz : (a : Int) < s.size := by omega
  by_cases h2 : n = 0
  · subst h2
    rw [if_pos rfl] at hd
    have HD := Lib.hid hd
    clear hd
    go_enter Tryd.func83, Tryd.ntmps83
    go_wp2_with fail
    refine (HN.out w).mono ?_
    rintro e w' ⟨rfl, rfl⟩
    go_wp2_with fail
    go_ret
    exact ⟨ret_int (by rw [HD.out]; rfl), rfl⟩
  have h2' : ((n : Int) == 0) = false := by rw [beq_eq_false_iff_ne]; omega
  have e1 : ((n - 1 : Nat) : Int) = (n : Int) - 1 := by omega
  rw [e1] at HQ
  have hw : IntKind.i64.wrap ((n : Int) - 1) = (n : Int) - 1 := i64w _ (by omega) (by omega)
  rw [if_neg h2] at hd
  have HD := Lib.hid hd
  clear hd h2 e1
  go_enter Tryd.func83, Tryd.ntmps83
  go_wp2_with fail
  refine (HN.out w).mono ?_
  rintro e w' ⟨rfl, rfl⟩
  go_wp2_with fail
  refine (HQ.out w).mono ?_
  rintro e w' ⟨rfl, rfl⟩
  go_wp2_with fail
  go_ret
  exact ⟨ret_int (by rw [HD.out]), rfl⟩

set_option maxRecDepth 100000 in
theorem read_one (s : ByteArray) (a : Nat) (w : World) (ha : a < s.size) (_hs : s.size ≤ 140737488355328) :
    Calls Tryd.prog 117 #[.string s, .int .i64 a, .int .i64 1] w fun e w' => e = .returned (.int .i32 (rune (s.data.toList.drop a) 1)) ∧ w = w' := by
  obtain ⟨x, hx, hxb⟩ := at_by s a ha
  have hr : rune (s.data.toList.drop a) 1 = x.toNat := by unfold rune; rw [if_pos rfl, by_drop, Nat.add_zero, hxb]
  have hx2 := x.toNat_lt
  have haz : (a : Int) < s.size := by omega
  have HR := Lib.hid hr
  have hw : IntKind.i32.wrap (x.toNat : Int) = x.toNat := IntWalk.i32_in _ ⟨by omega, by omega⟩
  clear hxb hr
  go_enter Tryd.func117, Tryd.ntmps117
  go_wp2_with fail
  go_ret
  exact ⟨ret_int (by rw [HR.out]), rfl⟩

/-- What is read behind i bytes. -/
def rd (l : List UInt8) (m : Nat) : Nat → Nat
  | 0 => 0
  | 1 => by' l 0 % m
  | i + 2 => rd l m (i + 1) * 64 + by' l (i + 1) % 64
theorem rd_lt (l : List UInt8) (m : Nat) (hm : 0 < m) (hm2 : m ≤ 64) : ∀ i, i ≤ 3 → rd l m (i + 1) < 64 ^ (i + 1) := by
  intro i
  induction i with
  | zero =>
    intro _
    have : by' l 0 % m < m := Nat.mod_lt _ hm
    show by' l 0 % m < 64 ^ 1
    omega
  | succ i ih =>
    intro h
    have h1 := ih (by omega)
    have h2 : by' l (i + 1) % 64 < 64 := Nat.mod_lt _ (by decide)
    show rd l m (i + 1) * 64 + by' l (i + 1) % 64 < 64 ^ (i + 1) * 64
    omega

theorem and_31 : ∀ c : Fin 256, bits BinOp.and .i32 ((c.val : Nat) : Int) 31 = ((c.val % 32 : Nat) : Int) := by decide +kernel
theorem and_15 : ∀ c : Fin 256, bits BinOp.and .i32 ((c.val : Nat) : Int) 15 = ((c.val % 16 : Nat) : Int) := by decide +kernel
theorem and_7 : ∀ c : Fin 256, bits BinOp.and .i32 ((c.val : Nat) : Int) 7 = ((c.val % 8 : Nat) : Int) := by decide +kernel
theorem and_63 : ∀ c : Fin 256, bits BinOp.and .i32 ((c.val : Nat) : Int) 63 = ((c.val % 64 : Nat) : Int) := by decide +kernel

set_option maxHeartbeats 1000000 in
set_option maxRecDepth 100000 in
theorem read_2 (s : ByteArray) (a : Nat) (w : World) (ha : a + (2 - 1) < s.size) (_hs : s.size ≤ 140737488355328) :
    Calls Tryd.prog 117 #[.string s, .int .i64 a, .int .i64 2] w fun e w' => e = .returned (.int .i32 (rd (s.data.toList.drop a) 32 2)) ∧ w = w' := by
  obtain ⟨x, hx, hxb⟩ := at_by s a (by omega)
  have hx2 := x.toNat_lt
  have haz : (a : Int) < s.size := by omega
  have hwx : IntKind.i32.wrap (x.toNat : Int) = x.toNat := IntWalk.i32_in _ ⟨by omega, by omega⟩
  obtain ⟨l, hl⟩ : ∃ l, s.data.toList.drop a = l := ⟨_, rfl⟩
  rw [hl]
  have hby : ∀ k, by' l k = by' s.data.toList (a + k) := fun k => by rw [← hl, by_drop]
  have hm1 : bits BinOp.and .i32 (x.toNat : Int) 31 = ((rd l 32 1 : Nat) : Int) := by
    have h1 := and_31 ⟨x.toNat, hx2⟩
    rw [h1]
    show ((x.toNat % 32 : Nat) : Int) = ((by' l 0 % 32 : Nat) : Int)
    rw [hby 0, Nat.add_zero, hxb]
  have HBY := Lib.hid hby
  obtain ⟨r1, hr1⟩ : ∃ z, rd l 32 1 = z := ⟨_, rfl⟩
  rw [hr1] at hm1
  have HR1 := Lib.hid hr1
  clear hl hby hxb hr1
  go_enter Tryd.func117, Tryd.ntmps117
  go_upto_region 5 with fail
  clear hx hm1 hwx haz
  go_loopg [7, 8] 1 (fun g s7 s8 wr => ∃ i : Nat, 1 ≤ i ∧ i ≤ 2 ∧ g = 2 - i ∧ s8 = .int .i64 i ∧ s7 = .int .i32 (rd l 32 i) ∧ wr = w)
  case atStart => exact ⟨1, by decide, by decide, rfl, rfl, by rw [HR1.out], rfl⟩
  case round =>
    obtain ⟨i, hi1, hi2, hg, rfl, rfl, rfl⟩ := hrel
    have HG := Lib.hid hg
    clear hg
    by_cases hlt : i < 2
    · have hlti : (i : Int) < 2 := by omega
      obtain ⟨y, hy, hyb⟩ := at_by s (a + i) (by omega)
      have hy2 := y.toNat_lt
      have haz : (a : Int) + i < s.size := by omega
      have i1 : ((a : Int) + i).toNat = a + i := by omega
      have w1 : IntKind.i64.wrap ((a : Int) + i) = (a : Int) + i := i64w _ (by omega) (by omega)
      have hwy : IntKind.i32.wrap (y.toNat : Int) = y.toNat := IntWalk.i32_in _ ⟨by omega, by omega⟩
      have hb := rd_lt l 32 (by decide) (by decide) (i - 1) (by omega)
      rw [show i - 1 + 1 = i by omega] at hb
      have hp : 64 ^ i ≤ 64 ^ 3 := Nat.pow_le_pow_right (by decide) (by omega)
      have hm2 : bits BinOp.and .i32 (y.toNat : Int) 63 = ((by' l i % 64 : Nat) : Int) := by
        have h1 := and_63 ⟨y.toNat, hy2⟩
        rw [h1, HBY.out, ← hyb]
      have hq : by' l i % 64 < 64 := Nat.mod_lt _ (by decide)
      have hrd : rd l 32 (i + 1) = rd l 32 i * 64 + by' l i % 64 := by
        obtain ⟨j, rfl⟩ : ∃ j, i = j + 1 := ⟨i - 1, by omega⟩
        rfl
      obtain ⟨q, hqq⟩ : ∃ q, by' l i % 64 = q := ⟨_, rfl⟩
      obtain ⟨r, hr⟩ : ∃ r, rd l 32 i = r := ⟨_, rfl⟩
      rw [hqq] at hm2 hq hrd
      rw [hr] at hb hrd ⊢
      have w2 : IntKind.i32.wrap ((r : Int) * 64) = (r : Int) * 64 := IntWalk.i32_in _ ⟨by omega, by omega⟩
      have w3 : IntKind.i32.wrap ((r : Int) * 64 + q) = (r : Int) * 64 + q := IntWalk.i32_in _ ⟨by omega, by omega⟩
      have HRD := Lib.hid hrd
      clear hyb hrd hqq hr hp
      go_wp2_with fail
      go_roundg (2 - (i + 1))
      case measure => have := HG.out; omega
      case rel => exact ⟨i + 1, by omega, by omega, rfl, by go_num, by rw [HRD.out]; rfl, rfl⟩
    · have hi : i = 2 := by omega
      subst hi
      go_wp2_with fail
      go_ret
      exact ⟨rfl, rfl⟩
set_option maxHeartbeats 1000000 in
set_option maxRecDepth 100000 in
theorem read_3 (s : ByteArray) (a : Nat) (w : World) (ha : a + (3 - 1) < s.size) (_hs : s.size ≤ 140737488355328) :
    Calls Tryd.prog 117 #[.string s, .int .i64 a, .int .i64 3] w fun e w' => e = .returned (.int .i32 (rd (s.data.toList.drop a) 16 3)) ∧ w = w' := by
  obtain ⟨x, hx, hxb⟩ := at_by s a (by omega)
  have hx2 := x.toNat_lt
  have haz : (a : Int) < s.size := by omega
  have hwx : IntKind.i32.wrap (x.toNat : Int) = x.toNat := IntWalk.i32_in _ ⟨by omega, by omega⟩
  obtain ⟨l, hl⟩ : ∃ l, s.data.toList.drop a = l := ⟨_, rfl⟩
  rw [hl]
  have hby : ∀ k, by' l k = by' s.data.toList (a + k) := fun k => by rw [← hl, by_drop]
  have hm1 : bits BinOp.and .i32 (x.toNat : Int) 15 = ((rd l 16 1 : Nat) : Int) := by
    have h1 := and_15 ⟨x.toNat, hx2⟩
    rw [h1]
    show ((x.toNat % 16 : Nat) : Int) = ((by' l 0 % 16 : Nat) : Int)
    rw [hby 0, Nat.add_zero, hxb]
  have HBY := Lib.hid hby
  obtain ⟨r1, hr1⟩ : ∃ z, rd l 16 1 = z := ⟨_, rfl⟩
  rw [hr1] at hm1
  have HR1 := Lib.hid hr1
  clear hl hby hxb hr1
  go_enter Tryd.func117, Tryd.ntmps117
  go_upto_region 5 with fail
  clear hx hm1 hwx haz
  go_loopg [7, 8] 2 (fun g s7 s8 wr => ∃ i : Nat, 1 ≤ i ∧ i ≤ 3 ∧ g = 3 - i ∧ s8 = .int .i64 i ∧ s7 = .int .i32 (rd l 16 i) ∧ wr = w)
  case atStart => exact ⟨1, by decide, by decide, rfl, rfl, by rw [HR1.out], rfl⟩
  case round =>
    obtain ⟨i, hi1, hi2, hg, rfl, rfl, rfl⟩ := hrel
    have HG := Lib.hid hg
    clear hg
    by_cases hlt : i < 3
    · have hlti : (i : Int) < 3 := by omega
      obtain ⟨y, hy, hyb⟩ := at_by s (a + i) (by omega)
      have hy2 := y.toNat_lt
      have haz : (a : Int) + i < s.size := by omega
      have i1 : ((a : Int) + i).toNat = a + i := by omega
      have w1 : IntKind.i64.wrap ((a : Int) + i) = (a : Int) + i := i64w _ (by omega) (by omega)
      have hwy : IntKind.i32.wrap (y.toNat : Int) = y.toNat := IntWalk.i32_in _ ⟨by omega, by omega⟩
      have hb := rd_lt l 16 (by decide) (by decide) (i - 1) (by omega)
      rw [show i - 1 + 1 = i by omega] at hb
      have hp : 64 ^ i ≤ 64 ^ 3 := Nat.pow_le_pow_right (by decide) (by omega)
      have hm2 : bits BinOp.and .i32 (y.toNat : Int) 63 = ((by' l i % 64 : Nat) : Int) := by
        have h1 := and_63 ⟨y.toNat, hy2⟩
        rw [h1, HBY.out, ← hyb]
      have hq : by' l i % 64 < 64 := Nat.mod_lt _ (by decide)
      have hrd : rd l 16 (i + 1) = rd l 16 i * 64 + by' l i % 64 := by
        obtain ⟨j, rfl⟩ : ∃ j, i = j + 1 := ⟨i - 1, by omega⟩
        rfl
      obtain ⟨q, hqq⟩ : ∃ q, by' l i % 64 = q := ⟨_, rfl⟩
      obtain ⟨r, hr⟩ : ∃ r, rd l 16 i = r := ⟨_, rfl⟩
      rw [hqq] at hm2 hq hrd
      rw [hr] at hb hrd ⊢
      have w2 : IntKind.i32.wrap ((r : Int) * 64) = (r : Int) * 64 := IntWalk.i32_in _ ⟨by omega, by omega⟩
      have w3 : IntKind.i32.wrap ((r : Int) * 64 + q) = (r : Int) * 64 + q := IntWalk.i32_in _ ⟨by omega, by omega⟩
      have HRD := Lib.hid hrd
      clear hyb hrd hqq hr hp
      go_wp2_with fail
      go_roundg (3 - (i + 1))
      case measure => have := HG.out; omega
      case rel => exact ⟨i + 1, by omega, by omega, rfl, by go_num, by rw [HRD.out]; rfl, rfl⟩
    · have hi : i = 3 := by omega
      subst hi
      go_wp2_with fail
      go_ret
      exact ⟨rfl, rfl⟩
set_option maxHeartbeats 1000000 in
set_option maxRecDepth 100000 in
theorem read_4 (s : ByteArray) (a : Nat) (w : World) (ha : a + (4 - 1) < s.size) (_hs : s.size ≤ 140737488355328) :
    Calls Tryd.prog 117 #[.string s, .int .i64 a, .int .i64 4] w fun e w' => e = .returned (.int .i32 (rd (s.data.toList.drop a) 8 4)) ∧ w = w' := by
  obtain ⟨x, hx, hxb⟩ := at_by s a (by omega)
  have hx2 := x.toNat_lt
  have haz : (a : Int) < s.size := by omega
  have hwx : IntKind.i32.wrap (x.toNat : Int) = x.toNat := IntWalk.i32_in _ ⟨by omega, by omega⟩
  obtain ⟨l, hl⟩ : ∃ l, s.data.toList.drop a = l := ⟨_, rfl⟩
  rw [hl]
  have hby : ∀ k, by' l k = by' s.data.toList (a + k) := fun k => by rw [← hl, by_drop]
  have hm1 : bits BinOp.and .i32 (x.toNat : Int) 7 = ((rd l 8 1 : Nat) : Int) := by
    have h1 := and_7 ⟨x.toNat, hx2⟩
    rw [h1]
    show ((x.toNat % 8 : Nat) : Int) = ((by' l 0 % 8 : Nat) : Int)
    rw [hby 0, Nat.add_zero, hxb]
  have HBY := Lib.hid hby
  obtain ⟨r1, hr1⟩ : ∃ z, rd l 8 1 = z := ⟨_, rfl⟩
  rw [hr1] at hm1
  have HR1 := Lib.hid hr1
  clear hl hby hxb hr1
  go_enter Tryd.func117, Tryd.ntmps117
  go_upto_region 5 with fail
  clear hx hm1 hwx haz
  go_loopg [7, 8] 3 (fun g s7 s8 wr => ∃ i : Nat, 1 ≤ i ∧ i ≤ 4 ∧ g = 4 - i ∧ s8 = .int .i64 i ∧ s7 = .int .i32 (rd l 8 i) ∧ wr = w)
  case atStart => exact ⟨1, by decide, by decide, rfl, rfl, by rw [HR1.out], rfl⟩
  case round =>
    obtain ⟨i, hi1, hi2, hg, rfl, rfl, rfl⟩ := hrel
    have HG := Lib.hid hg
    clear hg
    by_cases hlt : i < 4
    · have hlti : (i : Int) < 4 := by omega
      obtain ⟨y, hy, hyb⟩ := at_by s (a + i) (by omega)
      have hy2 := y.toNat_lt
      have haz : (a : Int) + i < s.size := by omega
      have i1 : ((a : Int) + i).toNat = a + i := by omega
      have w1 : IntKind.i64.wrap ((a : Int) + i) = (a : Int) + i := i64w _ (by omega) (by omega)
      have hwy : IntKind.i32.wrap (y.toNat : Int) = y.toNat := IntWalk.i32_in _ ⟨by omega, by omega⟩
      have hb := rd_lt l 8 (by decide) (by decide) (i - 1) (by omega)
      rw [show i - 1 + 1 = i by omega] at hb
      have hp : 64 ^ i ≤ 64 ^ 3 := Nat.pow_le_pow_right (by decide) (by omega)
      have hm2 : bits BinOp.and .i32 (y.toNat : Int) 63 = ((by' l i % 64 : Nat) : Int) := by
        have h1 := and_63 ⟨y.toNat, hy2⟩
        rw [h1, HBY.out, ← hyb]
      have hq : by' l i % 64 < 64 := Nat.mod_lt _ (by decide)
      have hrd : rd l 8 (i + 1) = rd l 8 i * 64 + by' l i % 64 := by
        obtain ⟨j, rfl⟩ : ∃ j, i = j + 1 := ⟨i - 1, by omega⟩
        rfl
      obtain ⟨q, hqq⟩ : ∃ q, by' l i % 64 = q := ⟨_, rfl⟩
      obtain ⟨r, hr⟩ : ∃ r, rd l 8 i = r := ⟨_, rfl⟩
      rw [hqq] at hm2 hq hrd
      rw [hr] at hb hrd ⊢
      have w2 : IntKind.i32.wrap ((r : Int) * 64) = (r : Int) * 64 := IntWalk.i32_in _ ⟨by omega, by omega⟩
      have w3 : IntKind.i32.wrap ((r : Int) * 64 + q) = (r : Int) * 64 + q := IntWalk.i32_in _ ⟨by omega, by omega⟩
      have HRD := Lib.hid hrd
      clear hyb hrd hqq hr hp
      go_wp2_with fail
      go_roundg (4 - (i + 1))
      case measure => have := HG.out; omega
      case rel => exact ⟨i + 1, by omega, by omega, rfl, by go_num, by rw [HRD.out]; rfl, rfl⟩
    · have hi : i = 4 := by omega
      subst hi
      go_wp2_with fail
      go_ret
      exact ⟨rfl, rfl⟩

/-- read, of a sequence that is well-formed. -/
theorem read_calls (s : ByteArray) (a : Nat) (w : World) (ha : a < s.size) (hs : s.size ≤ 140737488355328) (hw : width (s.data.toList.drop a) ≠ 0) :
    Calls Tryd.prog 117 #[.string s, .int .i64 a, .int .i64 (width (s.data.toList.drop a))] w fun e w' => e = .returned (.int .i32 (rune (s.data.toList.drop a) (width (s.data.toList.drop a)))) ∧ w = w' := by
  have hl : (s.data.toList.drop a).length = s.size - a := by rw [List.length_drop, size_list]
  rcases width_cases (s.data.toList.drop a) with ⟨h, _⟩ | ⟨h, _, _, h2, _⟩ | ⟨h, _, _, h2, _⟩ | ⟨h, _, _, h2, _⟩ | ⟨h, _⟩
  · rw [h]
    exact read_one s a w ha hs
  · rw [h]
    have := read_2 s a w (by omega) hs
    rw [show rd (s.data.toList.drop a) 32 2 = rune (s.data.toList.drop a) 2 by simp [rd, rune]] at this
    exact this
  · rw [h]
    have := read_3 s a w (by omega) hs
    rw [show rd (s.data.toList.drop a) 16 3 = rune (s.data.toList.drop a) 3 by simp [rd, rune]] at this
    exact this
  · rw [h]
    have := read_4 s a w (by omega) hs
    rw [show rd (s.data.toList.drop a) 8 4 = rune (s.data.toList.drop a) 4 by simp [rd, rune]] at this
    exact this
  · exact absurd h hw
end Go.Proofs.YtendkmldecoogaaDoor.Ref2b
namespace Go.Proofs.YtendkmldecoogaaDoor.Ref2c
open Go Go.RowKit Go.Proofs.YtendkmldecoogaaDoor.Kit Go.Proofs.YtendkmldecoogaaDoor.Seg Go.Proofs.YtendkmldecoogaaDoor.Collect Go.Proofs.YtendkmldecoogaaDoor.Utf Go.Proofs.YtendkmldecoogaaDoor.It Go.Proofs.YtendkmldecoogaaDoor.ItGo Go.Proofs.YtendkmldecoogaaDoor.Cu Go.Proofs.YtendkmldecoogaaDoor.Ref2a Go.Proofs.YtendkmldecoogaaDoor.Ref2b
attribute [local irreducible] wpQuiet

/-- Items' cells. -/
def flatI (T : List It) : List Value := T.flatMap fun t => [.int .i64 t.from', .int .i64 t.bytes, .int .i32 t.rune, .bool t.bad]
theorem flatI_append (S T : List It) : flatI (S ++ T) = flatI S ++ flatI T := by simp [flatI]
theorem flatI_at {T : List It} : ∀ {i : Nat}, i < T.length → (flatI T)[i * 4]? = some (.int .i64 (T.getD i default).from') ∧ (flatI T)[i * 4 + 1]? = some (.int .i64 (T.getD i default).bytes) ∧ (flatI T)[i * 4 + 2]? = some (.int .i32 (T.getD i default).rune) ∧ (flatI T)[i * 4 + 3]? = some (.bool (T.getD i default).bad) := by
  induction T with
  | nil => intro i h; simp at h
  | cons t T ih =>
    intro i h
    cases i with
    | zero => exact ⟨rfl, rfl, rfl, rfl⟩
    | succ i =>
      have h1 := ih (i := i) (by simpa using h)
      have e : ∀ j, (flatI (t :: T))[(i + 1) * 4 + j]? = (flatI T)[i * 4 + j]? := fun j => by
        rw [show (i + 1) * 4 + j = (i * 4 + j) + 4 by omega]
        rfl
      have e0 := e 0
      simp only [Nat.add_zero] at e0
      rw [e0, e 1, e 2, e 3]
      simpa using h1
/-- A list of items of the call's own. -/
def IRow (w : World) (base : Nat) (v : Value) (T : List It) : Prop := Seg w base 166 4 v T.length (flatI T)
theorem elemI : Elem Tryd.prog 120 166 (.agg #[.int .i64 0, .int .i64 0, .int .i32 0, .bool false]) 4 24 := ⟨Tryd.underlying120, by kernel_rfl, rfl, by decide⟩

/-- One more item is put behind. -/
theorem IRow.next {w0 A : World} {v : Value} {T : List It} {bb : Nat} (x : It) (hb0 : Below w0.heap.size w0 A) (h : IRow A w0.heap.size v T) (hb : A.heap[bb]? = some (.cells #[.int .i64 x.from', .int .i64 x.bytes, .int .i32 x.rune, .bool x.bad] 166 (0, 0))) (hn : T.length < 1000000000000) (ty : TypeId) :
    ∃ v' A', (Builtin.append_ #[120, 120] ty #[v, .slice (some ⟨bb, 0, none⟩) 1 1]).run Tryd.prog A = .ok v' A' ∧ IRow A' w0.heap.size v' (T ++ [x]) ∧ Below w0.heap.size w0 A' := by
  obtain ⟨i, hi, hz0, hz1, hz2⟩ := elemI.parts
  have hsrc : Src A (.slice (some ⟨bb, 0, none⟩) 1 1) 1 [.int .i64 x.from', .int .i64 x.bytes, .int .i32 x.rune, .bool x.bad] := by
    refine ⟨some ⟨bb, 0, none⟩, 1, rfl, (fun h => by cases h), fun ad had j u hu => ?_⟩
    cases had
    rw [add_plain, cell_at hb]
    simpa using hu
  obtain ⟨v', A', hr, ha, _⟩ := run_append_seg (P := Tryd.prog) A w0.heap.size 120 ty 166 i _ 4 24 elemI.t hi hz0 hz1 hz2 elemI.z elemI.p v T.length (flatI T) h (.slice (some ⟨bb, 0, none⟩) 1 1) 1 _ (by rfl) hsrc (by simp [Value.oneCell']) (by unfold maxLen; omega) (by omega) hb0.size
  refine ⟨v', A', hr, ?_, hb0.trans (ha.u.below hb0.size (fun b hb hh => by have := (h.lt b hh).1; omega))⟩
  unfold IRow
  rw [flatI_append, List.length_append]
  exact ha.seg

set_option maxHeartbeats 2000000 in
set_option maxRecDepth 100000 in
theorem Complete_calls (s : ByteArray) (w : World) (hs : s.size ≤ 100000000000) :
    Calls Tryd.prog 84 #[.string s] w fun e w' => ∃ v, e = .returned (.tuple #[v, .int .i64 (comp 0 s.data.toList).2]) ∧ IRow w' w.heap.size v (comp 0 s.data.toList).1 ∧ Below w.heap.size w w' := by
  obtain ⟨C, hC⟩ : ∃ C, comp 0 s.data.toList = C := ⟨_, rfl⟩
  rw [hC]
  have HC := Lib.hid hC
  clear hC
  go_enter Tryd.func84, Tryd.ntmps84
  go_wp2_with fail
  go_loopg [4, 5, 6] s.size (fun g s4 s5 s6 wr => ∃ (a : Nat) (T : List It), a ≤ s.size ∧ g = s.size - a ∧ s5 = .int .i64 a ∧ IRow wr w.heap.size s4 T ∧ T.length ≤ a ∧ (T ++ (comp a (s.data.toList.drop a)).1 = C.1 ∧ (comp a (s.data.toList.drop a)).2 = C.2) ∧ Below w.heap.size w wr)
  case atStart => exact ⟨0, [], Nat.zero_le _, by omega, rfl, Seg.nil _ _ _ _, Nat.le_refl _, ⟨by rw [List.drop_zero, HC.out]; rfl, by rw [List.drop_zero, HC.out]⟩, Below.refl _ _⟩
  case round =>
    obtain ⟨a, T, ha, hg, rfl, hrow, hTa, hc, hb⟩ := hrel
    have HG := Lib.hid hg
    have HROW := Lib.hid hrow
    have HCC := Lib.hid hc
    have HB := Lib.hid hb
    clear hg hrow hc hb
    by_cases hlt : a < s.size
    · have hlti : (a : Int) < s.size := by omega
      obtain ⟨l, hl⟩ : ∃ l, s.data.toList.drop a = l := ⟨_, rfl⟩
      have hlen : l.length = s.size - a := by rw [← hl, List.length_drop, size_list]
      have hne : l ≠ [] := by rintro rfl; simp at hlen; omega
      have HW := Lib.hid (fun w => Width_calls s a w hlt (by omega))
      have HBG := Lib.hid (fun w => Begins_calls s a w hlt (by omega))
      have HRD := Lib.hid (fun w h => read_calls s a w hlt (by omega) h)
      rw [hl] at HW HBG HRD HCC
      have hwl := width_le hne
      by_cases hw : width l = 0
      · have hx := one_bad (a := a) hw
        obtain ⟨q, hq⟩ : ∃ q, begins l = q := ⟨_, rfl⟩
        have w1 : IntKind.i64.wrap ((s.size : Int) - a) = (s.size : Int) - a := i64w _ (by omega) (by omega)
        have w2 : IntKind.i64.wrap ((a : Int) + 1) = (a : Int) + 1 := i64w _ (by omega) (by omega)
        by_cases hh : q = l.length
        · have hcc := HCC.out
          rw [comp_held hw (by rw [hq]; exact hh), List.append_nil] at hcc
          have HC2 := Lib.hid hcc
          have e1 : ((q : Int) == (s.size : Int) - a) = true := by rw [beq_iff_eq]; omega
          rw [hw] at HW
          rw [hq] at HBG
          clear hl hcc hq hx hlen hh hw HRD hwl
          go_wp2_with fail
          refine (HW.out wr).mono ?_
          rintro e w' ⟨rfl, rfl⟩
          go_wp2_with fail
          refine (HBG.out wr).mono ?_
          rintro e w' ⟨rfl, rfl⟩
          go_wp2_with fail
          refine bodyPost_ret (v := .tuple #[u4, .int .i64 a]) (by simp [results, Tryd.results84, go_sem, *]) rfl (⟨u4, ?_, ?_, HB.out⟩)
          · rw [← HC2.out.2]
          · rw [← HC2.out.1]
            exact HROW.out
        · have hcc := HCC.out
          rw [comp_one hne (fun h => hh (by rw [← hq]; exact h.2)), hx] at hcc
          simp only at hcc
          rw [← hl, List.drop_drop] at hcc
          have HC2 := Lib.hid hcc
          have e1 : ((q : Int) == (s.size : Int) - a) = false := by rw [beq_eq_false_iff_ne]; omega
          rw [hw] at HW
          rw [hq] at HBG
          clear hl hcc hq hx hlen hh hw HRD hwl
          go_wp2_with fail
          refine (HW.out wr).mono ?_
          rintro e w' ⟨rfl, rfl⟩
          go_wp2_with fail
          refine (HBG.out wr).mono ?_
          rintro e w' ⟨rfl, rfl⟩
          obtain ⟨A1, hA1⟩ : ∃ Xz, wr.alloc (.cells #[.int .i64 a, .int .i64 1, .int .i32 65533, .bool true] 166) = Xz := ⟨_, rfl⟩
          obtain ⟨bb, hbb⟩ : ∃ xz, wr.heap.size = xz := ⟨_, rfl⟩
          have hbA : Below wr.heap.size wr A1 := by rw [← hA1]; exact (Below.refl _ _).alloc (Nat.le_refl _) _
          have HV := Lib.hid (by rw [← hA1, ← hbb]; exact alloc_new rfl : A1.heap[bb]? = some (.cells #[.int .i64 a, .int .i64 1, .int .i32 65533, .bool true] 166 (0, 0)))
          have EA1 := Lib.hid hA1
          have Ebb := Lib.hid hbb
          clear hA1 hbb
          obtain ⟨v', A2, hrun, hrow2, hb2⟩ := IRow.next (w0 := w) ⟨a, 1, 65533, true⟩ (chain HB.out hbA) (HROW.out.below hbA) HV.out (by omega) 120
          rw [← EA1.out, ← Ebb.out] at hrun
          have HRUN := Lib.hid hrun
          have HROW2 := Lib.hid hrow2
          have HB2 := Lib.hid hb2
          clear hrun hrow2 hb2 hbA
          go_wp2_with (at_builtin; refine append_run rfl rfl rfl rfl HRUN.out ?_)
          go_roundg (s.size - (a + 1))
          case measure => have := HG.out; omega
          case rel =>
            refine ⟨a + 1, T ++ [⟨a, 1, 65533, true⟩], by omega, rfl, by go_num, HROW2.out, by rw [List.length_append]; simp; omega, ⟨?_, HC2.out.2⟩, HB2.out⟩
            rw [List.append_assoc]
            exact HC2.out.1
      · have hx : one a l = ⟨a, width l, rune l (width l), false⟩ := by
          unfold one dec
          rw [if_neg hw]
          simp [hw]
        have hcc := HCC.out
        rw [comp_one hne (fun h => hw h.1), hx] at hcc
        simp only at hcc
        rw [← hl, List.drop_drop, hl] at hcc
        obtain ⟨n, hn⟩ : ∃ n, width l = n := ⟨_, rfl⟩
        rw [hn] at HW HRD hwl hcc hw
        obtain ⟨r, hr⟩ : ∃ r, rune l n = r := ⟨_, rfl⟩
        rw [hr] at HRD hcc
        have HR := Lib.hid (fun w => HRD.out w hw)
        have hnz : (0 : Int) < n := by omega
        have HC2 := Lib.hid hcc
        have HLEN := Lib.hid hlen
        have w1 : IntKind.i64.wrap ((a : Int) + n) = (a : Int) + n := i64w _ (by omega) (by omega)
        clear hl hcc hn hr hlen hx HRD
        go_wp2_with fail
        refine (HW.out wr).mono ?_
        rintro e w' ⟨rfl, rfl⟩
        go_wp2_with fail
        refine (HR.out wr).mono ?_
        rintro e w' ⟨rfl, rfl⟩
        obtain ⟨A1, hA1⟩ : ∃ Xz, wr.alloc (.cells #[.int .i64 a, .int .i64 n, .int .i32 r, .bool false] 166) = Xz := ⟨_, rfl⟩
        obtain ⟨bb, hbb⟩ : ∃ xz, wr.heap.size = xz := ⟨_, rfl⟩
        have hbA : Below wr.heap.size wr A1 := by rw [← hA1]; exact (Below.refl _ _).alloc (Nat.le_refl _) _
        have HV := Lib.hid (by rw [← hA1, ← hbb]; exact alloc_new rfl : A1.heap[bb]? = some (.cells #[.int .i64 a, .int .i64 n, .int .i32 r, .bool false] 166 (0, 0)))
        have EA1 := Lib.hid hA1
        have Ebb := Lib.hid hbb
        clear hA1 hbb
        obtain ⟨v', A2, hrun, hrow2, hb2⟩ := IRow.next (w0 := w) ⟨a, n, r, false⟩ (chain HB.out hbA) (HROW.out.below hbA) HV.out (by omega) 120
        rw [← EA1.out, ← Ebb.out] at hrun
        have HRUN := Lib.hid hrun
        have HROW2 := Lib.hid hrow2
        have HB2 := Lib.hid hb2
        clear hrun hrow2 hb2 hbA
        go_wp2_with (at_builtin; refine append_run rfl rfl rfl rfl HRUN.out ?_)
        go_roundg (s.size - (a + n))
        case measure => have := HG.out; omega
        case rel =>
          refine ⟨a + n, T ++ [⟨a, n, r, false⟩], by have := HLEN.out; omega, rfl, by go_num, HROW2.out, by rw [List.length_append]; simp; omega, ⟨?_, HC2.out.2⟩, HB2.out⟩
          rw [List.append_assoc]
          exact HC2.out.1
    · have hil : a = s.size := by omega
      subst hil
      have hcc := HCC.out
      rw [show s.data.toList.drop s.size = [] from List.drop_eq_nil_iff.2 (by rw [size_list]; exact Nat.le_refl _), comp_nil, List.append_nil] at hcc
      have HC2 := Lib.hid hcc
      clear hcc
      go_wp2_with fail
      refine bodyPost_ret (v := .tuple #[u4, .int .i64 s.size]) (by simp [results, Tryd.results84, go_sem, *]) rfl (⟨u4, ?_, ?_, HB.out⟩)
      · rw [← HC2.out.2]
      · rw [← HC2.out.1]
        exact HROW.out

set_option maxHeartbeats 2000000 in
set_option maxRecDepth 100000 in
theorem Items_calls (s : ByteArray) (w : World) (hs : s.size ≤ 100000000000) :
    Calls Tryd.prog 69 #[.string s] w fun e w' => ∃ v, e = .returned v ∧ IRow w' w.heap.size v (items 0 s.data.toList) ∧ Below w.heap.size w w' := by
  obtain ⟨c1, c2, c3, c4⟩ := comp_items s.data.toList 0
  have HC := Lib.hid (Complete_calls s w hs)
  obtain ⟨C, hC⟩ : ∃ C, comp 0 s.data.toList = C := ⟨_, rfl⟩
  rw [hC] at c1 c2 c3 c4 HC
  rw [Nat.zero_add, size_list] at c2 c4
  rw [Nat.sub_zero] at c3 c4
  obtain ⟨I, hI⟩ : ∃ I, items 0 s.data.toList = I := ⟨_, rfl⟩
  rw [hI] at c3 ⊢
  have hbad : ∀ k, C.2 ≤ k → k < s.size → width (s.data.toList.drop k) = 0 := by
    intro k h1 h2
    obtain ⟨h3, h4⟩ := c4 (by omega)
    have h5 := begins_end h4 h3 (k - C.2) (by rw [List.length_drop, size_list]; omega)
    rw [List.drop_drop, show C.2 + (k - C.2) = k by omega] at h5
    exact h5
  have HBAD := Lib.hid hbad
  have HC3 := Lib.hid c3
  have hTC : C.1.length ≤ s.size := by
    have h1 := items_len s.data.toList 0
    rw [hI, ← c3, List.length_append, size_list] at h1
    omega
  have hTC2 : C.1.length ≤ C.2 := by
    have h1 := sum_items s.data.toList 0
    have h2 := sum_items (s.data.toList.drop C.2) C.2
    rw [hI, ← c3, sum_append, h2, List.length_drop, size_list] at h1
    have h3 := sum_le_take (L := C.1) (fun x hx => items_pos (a := 0) (l := s.data.toList) (by rw [hI, ← c3]; exact List.mem_append_left _ hx)) C.1.length (Nat.le_refl _)
    rw [List.take_length] at h3
    omega
  clear hC hI c1 c3 c4 hbad
  go_enter Tryd.func69, Tryd.ntmps69
  go_wp2_with fail
  refine HC.out.mono ?_
  rintro e W1 ⟨v, rfl, hrow, hb1⟩
  have HROW := Lib.hid hrow
  have HB := Lib.hid hb1
  clear hrow hb1
  go_wp2_with fail
  go_loopg [3, 4] (s.size - C.2) (fun g s3 s4 wr => ∃ (a : Nat) (T : List It), a ≤ s.size ∧ C.2 ≤ a ∧ g = s.size - a ∧ s4 = .int .i64 a ∧ IRow wr w.heap.size s3 T ∧ T.length ≤ a ∧ T ++ items a (s.data.toList.drop a) = I ∧ Below w.heap.size w wr)
  case atStart => exact ⟨C.2, C.1, c2, Nat.le_refl _, rfl, rfl, HROW.out, hTC2, HC3.out, HB.out⟩
  case round =>
    obtain ⟨a, T, ha, hca, hg, rfl, hrow, hTa, hc, hb⟩ := hrel
    have HG := Lib.hid hg
    have HROW := Lib.hid hrow
    have HCC := Lib.hid hc
    have HB := Lib.hid hb
    clear hg hrow hc hb
    by_cases hlt : a < s.size
    · have hlti : (a : Int) < s.size := by omega
      have hne : s.data.toList.drop a ≠ [] := by
        intro h
        rw [List.drop_eq_nil_iff, size_list] at h
        omega
      have hcc := HCC.out
      rw [items_bad (HBAD.out a hca hlt) hne, List.drop_drop] at hcc
      have HC2 := Lib.hid hcc
      have w2 : IntKind.i64.wrap ((a : Int) + 1) = (a : Int) + 1 := i64w _ (by omega) (by omega)
      obtain ⟨A1, hA1⟩ : ∃ Xz, wr.alloc (.cells #[.int .i64 a, .int .i64 1, .int .i32 65533, .bool true] 166) = Xz := ⟨_, rfl⟩
      obtain ⟨bb, hbb⟩ : ∃ xz, wr.heap.size = xz := ⟨_, rfl⟩
      have hbA : Below wr.heap.size wr A1 := by rw [← hA1]; exact (Below.refl _ _).alloc (Nat.le_refl _) _
      have HV := Lib.hid (by rw [← hA1, ← hbb]; exact alloc_new rfl : A1.heap[bb]? = some (.cells #[.int .i64 a, .int .i64 1, .int .i32 65533, .bool true] 166 (0, 0)))
      have EA1 := Lib.hid hA1
      have Ebb := Lib.hid hbb
      clear hA1 hbb
      obtain ⟨v', A2, hrun, hrow2, hb2⟩ := IRow.next (w0 := w) ⟨a, 1, 65533, true⟩ (chain HB.out hbA) (HROW.out.below hbA) HV.out (by omega) 120
      rw [← EA1.out, ← Ebb.out] at hrun
      have HRUN := Lib.hid hrun
      have HROW2 := Lib.hid hrow2
      have HB2 := Lib.hid hb2
      clear hrun hrow2 hb2 hbA hcc hne
      go_wp2_with (at_builtin; refine append_run rfl rfl rfl rfl HRUN.out ?_)
      go_roundg (s.size - (a + 1))
      case measure => have := HG.out; omega
      case rel =>
        refine ⟨a + 1, T ++ [⟨a, 1, 65533, true⟩], by omega, by omega, rfl, by go_num, HROW2.out, by rw [List.length_append]; simp; omega, ?_, HB2.out⟩
        rw [List.append_assoc]
        exact HC2.out
    · have hil : a = s.size := by omega
      subst hil
      have hcc := HCC.out
      rw [show s.data.toList.drop s.size = [] from List.drop_eq_nil_iff.2 (by rw [size_list]; exact Nat.le_refl _), items_nil, List.append_nil] at hcc
      have HC2 := Lib.hid hcc
      clear hcc
      go_wp2_with fail
      go_ret
      exact ⟨_, rfl, by rw [← HC2.out]; exact HROW.out, HB.out⟩
end Go.Proofs.YtendkmldecoogaaDoor.Ref2c
