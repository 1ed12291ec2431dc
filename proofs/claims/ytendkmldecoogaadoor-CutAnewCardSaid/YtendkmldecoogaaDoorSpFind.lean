/-
  sort.Search, spans.find, spans.In.
-/
import Derived.Test.YtendkmldecoogaaDoorSpFns
namespace Go.Proofs.YtendkmldecoogaaDoor.SpFind
open Go Go.RowKit Go.Proofs.YtendkmldecoogaaDoor.Kit Go.Proofs.YtendkmldecoogaaDoor.SpFns
attribute [local irreducible] wpQuiet

set_option maxRecDepth 100000 in
theorem find1_calls (a : Option Addr) (len cap : Nat) (L H : Nat → Int) (r : Int) (b1 b2 : Nat) (k : Nat) (w : World) (hr : Row w a len L H) (hk : k < len)
    (h1 : w.heap[b1]? = some (.cells #[.slice a len cap] 31 (0, 0))) (h2 : w.heap[b2]? = some (.cells #[.int .i32 r] 21 (0, 0))) :
    Calls Tryd.prog 150 #[.int .i64 k, .pointer (some ⟨b1, 0, none⟩), .pointer (some ⟨b2, 0, none⟩)] w fun e w' =>
      e = .returned (.bool (decide (r ≤ H k))) ∧ Below w.heap.size w w' := by
  obtain ⟨b, off, rfl, hbl, hc⟩ := hr.at hk
  have c1 := (hc k hk).2
  have hi : (k : Int) < len := by omega
  have g1 := cell_at h1 0
  have g2 := cell_at h2 0
  have l1 := lt_of_heap h1
  have l2 := lt_of_heap h2
  simp only [List.getElem?_toArray, List.getElem?_cons_zero] at g1 g2
  clear h1 h2 hc hr
  go_enter Tryd.func150, Tryd.ntmps150
  go_wp2_with fail
  refine region_calm (by kernel_rfl) (by kernel_rfl) ?_
  repeat (quiet_step ((fail)))
  refine wpQuiet_nil ?_
  rintro _ ⟨x, rfl⟩
  go_wp2
  go_ret
  exact ⟨rfl, Later.chain (Below.refl _ _) x⟩

set_option maxRecDepth 100000 in
theorem Search_calls (n R : Nat) (p : Nat → Bool) (b1 b2 : Nat) (w : World) (hn : n ≤ 1000000000000000000) (hR : R ≤ n) (h0 : ∀ k, k < R → p k = false) (h1 : ∀ k, R ≤ k → k < n → p k = true)
    (hf : ∀ k w', k < n → Below w.heap.size w w' → Calls Tryd.prog 150 #[.int .i64 k, .pointer (some ⟨b1, 0, none⟩), .pointer (some ⟨b2, 0, none⟩)] w' fun e w'' => e = .returned (.bool (p k)) ∧ Below w'.heap.size w' w'') :
    Calls Tryd.prog 149 #[.int .i64 n, .func (.func 150) #[] #[.pointer (some ⟨b1, 0, none⟩), .pointer (some ⟨b2, 0, none⟩)]] w fun e w' => e = .returned (.int .i64 R) ∧ Below w.heap.size w w' := by
  have H0 := Lib.hid h0
  have H1 := Lib.hid h1
  have HF := Lib.hid hf
  clear h0 h1 hf
  go_enter Tryd.func149, Tryd.ntmps149
  go_wp2_with fail
  go_loopg [5, 6] n (fun g s5 s6 wr => ∃ i j : Nat, i ≤ R ∧ R ≤ j ∧ j ≤ n ∧ g = j - i ∧ s5 = .int .i64 i ∧ s6 = .int .i64 j ∧ Below w.heap.size w wr)
  case atStart => exact ⟨0, n, Nat.zero_le _, hR, Nat.le_refl _, by omega, rfl, rfl, Below.refl _ _⟩
  case round =>
    obtain ⟨i, j, hi, hj, hjn, hg, rfl, rfl, hbw⟩ := hrel
    have HBW := Lib.hid hbw
    have HG := Lib.hid hg
    clear hg hbw
    by_cases hlt : i < j
    · obtain ⟨m, hm⟩ : ∃ m, m = (i + j) / 2 := ⟨_, rfl⟩
      have hs : IntKind.i64.wrap ((i : Int) + j) = (i : Int) + j := i64w _ (by omega) (by omega)
      have hmI : ((i : Int) + j) / 2 = (m : Int) := by rw [hm]; omega
      have hmi : i ≤ m := by omega
      have hmj : m < j := by omega
      clear hm
      have HMI := Lib.hid hmI
      clear hmI
      have hc := HF.out m wr (by omega) HBW.out
      go_wp2_with fail
      rw [HMI.out]
      cases hp : p m with
      | false =>
        rw [hp] at hc
        refine hc.mono ?_
        clear hc
        rintro e w' ⟨rfl, hb⟩
        have HB := Lib.hid hb
        have hmR : m + 1 ≤ R := by
          rcases Nat.lt_or_ge m R with h | h
          · exact h
          · have := H1.out m h (by omega)
            rw [hp] at this; cases this
        clear hp hb
        go_wp2
        go_roundg (j - (m + 1))
        case measure => have := HG.out; omega
        case rel => exact ⟨m + 1, j, hmR, hj, hjn, rfl, by go_num, rfl, chain HBW.out HB.out⟩
      | true =>
        rw [hp] at hc
        refine hc.mono ?_
        clear hc
        rintro e w' ⟨rfl, hb⟩
        have HB := Lib.hid hb
        have hmR : R ≤ m := by
          rcases Nat.lt_or_ge m R with h | h
          · have := H0.out m h
            rw [hp] at this; cases this
          · exact h
        clear hp hb
        go_wp2
        go_roundg (m - i)
        case measure => have := HG.out; omega
        case rel => exact ⟨i, m, hi, hmR, by omega, rfl, rfl, rfl, chain HBW.out HB.out⟩
    · have hij : i = R := by omega
      subst hij
      go_wp2
      go_ret
      exact ⟨rfl, HBW.out⟩

/-- Spans that rise: from R on each ends at r or behind it, and none before R does. -/
def Cut (H : Nat → Int) (len : Nat) (r : Int) (R : Nat) : Prop := R ≤ len ∧ (∀ k, k < R → H k < r) ∧ ∀ k, R ≤ k → k < len → r ≤ H k

set_option maxRecDepth 100000 in
theorem find_calls (a : Option Addr) (len cap : Nat) (L H : Nat → Int) (r : Int) (R : Nat) (w : World) (hr : Row w a len L H) (hl : len ≤ 1000000000000000000) (hc : Cut H len r R) :
    Calls Tryd.prog 138 #[.slice a len cap, .int .i32 r] w fun e w' => e = .returned (.int .i64 R) ∧ Below w.heap.size w w' := by
  go_enter Tryd.func138, Tryd.ntmps138
  go_wp2_with fail
  generalize hW : World.alloc _ _ = W3
  have hB : Below w.heap.size w W3 := by rw [← hW]; exact ((Below.refl _ _).alloc (Nat.le_refl _) _).alloc (by simp) _
  have h1 : W3.heap[w.heap.size]? = some (.cells #[.slice a len cap] 31 (0, 0)) := by rw [← hW, alloc_old (by simp)]; exact alloc_new rfl
  have h2 : W3.heap[w.heap.size + 1]? = some (.cells #[.int .i32 r] 21 (0, 0)) := by rw [← hW]; exact alloc_new (by simp)
  have hS := Search_calls len R (fun k => decide (r ≤ H k)) w.heap.size (w.heap.size + 1) W3 hl hc.1 (fun k hk => decide_eq_false (by have := hc.2.1 k hk; omega)) (fun k h h' => decide_eq_true (hc.2.2 k h h'))
    (fun k w' hk hb => find1_calls a len cap L H r _ _ k w' ((hr.below hB).below hb) hk (by rw [hb.block _ (lt_of_heap h1)]; exact h1) (by rw [hb.block _ (lt_of_heap h2)]; exact h2))
  refine hS.mono ?_
  rintro e w' ⟨rfl, hb⟩
  have HB := Lib.hid (chain hB hb)
  clear hS hb hB h1 h2 hW hc hr
  go_wp2
  go_ret
  exact ⟨rfl, HB.out⟩

set_option maxRecDepth 100000 in
theorem In_calls (a : Option Addr) (len cap : Nat) (L H : Nat → Int) (r : Int) (R : Nat) (w : World) (hr : Row w a len L H) (hl : len ≤ 1000000000000000000) (hc : Cut H len r R) :
    Calls Tryd.prog 107 #[.slice a len cap, .int .i32 r] w fun e w' => e = .returned (.bool (decide (VR r ∧ R < len ∧ L R ≤ r))) ∧ Below w.heap.size w w' := by
  have HF := Lib.hid (find_calls a len cap L H r R w hr hl hc)
  have HROW := Lib.hid hr
  have hRl := hc.1
  clear hr hc
  by_cases hR : R < len
  · obtain ⟨b, off, rfl, hbl, hcc⟩ := HROW.out.at hR
    have c0 := (hcc R hR).1
    clear hcc
    have hi : (R : Int) < len := by omega
    by_cases hv : VR r
    all_goals
      go_enter Tryd.func107, Tryd.ntmps107
      go_wp2_with (first | (go_at_call 138; with_reducible refine HF.out.mono ?_; rintro e w1 ⟨rfl, hb⟩; have HB := Lib.hid hb; have c1 := (bcell hb).1 b (off + R * 2) hbl; rw [c0] at c1; have hbl1 := Nat.lt_of_lt_of_le hbl hb.size; clear hb) | (go_at_call 139; refine (ValidRune_calls _ _).mono ?_; rintro e w' ⟨rfl, rfl⟩))
      all_goals
        go_ret
        exact ⟨ret_bool (by simp_all), HB.out⟩
  · have hR' : R = len := by omega
    by_cases hv : VR r
    all_goals
      go_enter Tryd.func107, Tryd.ntmps107
      go_wp2_with (first | (go_at_call 138; with_reducible refine HF.out.mono ?_; rintro e w1 ⟨rfl, hb⟩; have HB := Lib.hid hb; clear hb) | (go_at_call 139; refine (ValidRune_calls _ _).mono ?_; rintro e w' ⟨rfl, rfl⟩))
      all_goals
        go_ret
        exact ⟨ret_bool (by simp_all), HB.out⟩

end Go.Proofs.YtendkmldecoogaaDoor.SpFind
