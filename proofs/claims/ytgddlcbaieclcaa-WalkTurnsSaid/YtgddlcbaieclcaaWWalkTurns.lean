/-
  The walk of the law WalkTurns: it answers true.
-/
import Derived.Test.YtgddlcbaieclcaaWalkKnown
import Derived.Test.YtgddlcbaieclcaaWalkAlg
namespace Go.Proofs.Ytgddlcbaieclcaa.walkTurns
open Go Go.RowKit Go.Proofs.Ytgddlcbaieclcaa.WalkNum Go.Proofs.Ytgddlcbaieclcaa.Kit Go.Proofs.Ytgddlcbaieclcaa.WalkFns

def sumB (l : List UInt8) : Int := l.foldl (fun n c => n + (c.toNat : Int)) 0

theorem sumB_snoc (l : List UInt8) (c : UInt8) : sumB (l ++ [c]) = sumB l + c.toNat := by simp [sumB]

theorem sumB_le (l : List UInt8) : 0 ≤ sumB l ∧ sumB l ≤ 256 * l.length := by
  have h : ∀ (l : List UInt8) (n : Int), 0 ≤ n → 0 ≤ l.foldl (fun n c => n + (c.toNat : Int)) n ∧ l.foldl (fun n c => n + (c.toNat : Int)) n ≤ n + 256 * l.length := by
    intro l
    induction l with
    | nil => intro n h; simp; exact h
    | cons c l ih =>
      intro n h
      have hc := u8_lt c
      have := ih (n + c.toNat) (by omega)
      simp only [List.foldl_cons, List.length_cons]
      omega
  have := h l 0 (by omega)
  simpa [sumB] using this

theorem t_sum (l : List UInt8) : (wk W0 l).t = sumB l % 4 := by
  have h : ∀ (l : List UInt8) (a : W3) (n : Int), a.t = n % 4 → (wk a l).t = (l.foldl (fun n c => n + (c.toNat : Int)) n) % 4 := by
    intro l
    induction l with
    | nil => intro a n h; exact h
    | cons c l ih =>
      intro a n h
      have e : wk a (c :: l) = wk (J a (byteW c.toNat)) l := rfl
      rw [e, List.foldl_cons]
      refine ih _ _ ?_
      simp only [J, byteW]
      omega
  exact h l W0 0 rfl

set_option maxRecDepth 100000 in
theorem walk (a0 : ByteArray) (a1 : ByteArray) (w0 : a0.size ≤ maxLen) (w1 : a1.size ≤ maxLen) (w : World) :
    Calls Try.prog 4 #[.string a0, .string a1] w fun e w' => e = .returned (.bool true) ∧ Below w.heap.size w w' := by
  clear w0 w1
  obtain ⟨s, hs⟩ : ∃ s, s = few a0 2000 := ⟨_, rfl⟩
  obtain ⟨t, ht⟩ : ∃ t, t = few a1 2000 := ⟨_, rfl⟩
  have hsz := (few_size a0 2000).1
  have htz := (few_size a1 2000).1
  rw [← hs] at hsz
  rw [← ht] at htz
  have hsl : s.data.toList.length = s.size := by simp
  have htl : t.data.toList.length = t.size := by simp
  have HS := Lib.hid hs
  have HT := Lib.hid ht
  have HSL := Lib.hid hsl
  have HTL := Lib.hid htl
  clear hs ht hsl htl
  go_enter Try.func4, Try.ntmps4
  go_wp2_with fail
  refine (few_calls a0 2000 _).mono ?_
  rintro e w1 ⟨rfl, rfl⟩
  rw [← HS.out]
  go_wp2_with fail
  refine (few_calls a1 2000 _).mono ?_
  rintro e w1 ⟨rfl, rfl⟩
  rw [← HT.out]
  go_wp2_with fail
  go_loopg [5, 6] s.size (fun g s5 s6 wr => ∃ k : Nat, k ≤ s.size ∧ g = s.size - k ∧ s6 = .int .i64 k ∧ s5 = .int .i64 (sumB (s.data.toList.take k)) ∧ w = wr)
  case atStart => exact ⟨0, Nat.zero_le _, by omega, rfl, rfl, rfl⟩
  case round =>
    obtain ⟨k, hk, hg, rfl, rfl, rfl⟩ := hrel
    have HG := Lib.hid hg
    clear hg
    have hsb := sumB_le (s.data.toList.take k)
    have hln : (s.data.toList.take k).length ≤ k := List.length_take_le _ _
    by_cases hlt : k < s.size
    · have hc256 := u8_lt s[k]
      have hsn : sumB (s.data.toList.take (k + 1)) = sumB (s.data.toList.take k) + (s[k].toNat : Int) := by
        rw [take_snoc _ k (by rw [HSL.out]; exact hlt), sumB_snoc, byte_at hlt]
      have HN := Lib.hid hsn
      clear hsn
      obtain ⟨u, hu⟩ : ∃ u, u = sumB (s.data.toList.take k) := ⟨_, rfl⟩
      have HU := Lib.hid hu
      rw [← hu] at hsb
      rw [← hu]
      clear hu
      go_wp2
      go_roundg (gk - 1)
      case measure => have := HG.out; omega
      case rel => exact ⟨k + 1, by omega, by have := HG.out; omega, by go_num, by rw [HN.out, ← HU.out], rfl⟩
    · have hfin : s.data.toList.take k = s.data.toList := List.take_of_length_le (by rw [HSL.out]; omega)
      rw [hfin] at hsb hln
      rw [hfin]
      clear hfin
      obtain ⟨u, hu⟩ : ∃ u, u = sumB s.data.toList := ⟨_, rfl⟩
      have HU := Lib.hid hu
      rw [← hu] at hsb
      rw [← hu]
      clear hu
      go_wp2_with fail
      refine (Of_calls s (by omega) _).mono ?_
      rintro e w2 ⟨rfl, hb2⟩
      go_wp2_with fail
      refine (Of_calls t (by omega) _).mono ?_
      rintro e w3 ⟨rfl, hb3⟩
      have hz2 := hb2.size
      have hz3 := hb3.size
      simp only [World.size_alloc] at hz3
      have h7 : w3.heap[w2.heap.size]? = some (.cells #[.int .i64 (wkB B0 s.data.toList).t, .complex .f64 (wkB B0 s.data.toList).p (wkB B0 s.data.toList).q] 29 (0, 0)) := by
        rw [hb3.block _ (by simp), alloc_new rfl]
      have hB3 : Below w.heap.size w w3 := (hb2.alloc hz2 _).trans (hb3.mono (by simp; omega))
      go_wp2_with fail
      obtain ⟨W, hW⟩ : ∃ W, W = w3.alloc (.cells #[.int .i64 (wkB B0 t.data.toList).t, .complex .f64 (wkB B0 t.data.toList).p (wkB B0 t.data.toList).q] 29) := ⟨_, rfl⟩
      have hB : Below w.heap.size w W := by rw [hW]; exact hB3.alloc hB3.size _
      have h7' : W.heap[w2.heap.size]? = some (.cells #[.int .i64 (wkB B0 s.data.toList).t, .complex .f64 (wkB B0 s.data.toList).p (wkB B0 s.data.toList).q] 29 (0, 0)) := by rw [hW, alloc_old (by omega)]; exact h7
      have h8' : W.heap[w3.heap.size]? = some (.cells #[.int .i64 (wkB B0 t.data.toList).t, .complex .f64 (wkB B0 t.data.toList).p (wkB B0 t.data.toList).q] 29 (0, 0)) := by rw [hW]; exact alloc_new rfl
      rw [← hW]
      clear hW h7 hb2 hb3 hB3
      have z7 := lt_of_heap h7'
      have z8 := lt_of_heap h8'
      have c0 := cell_at h7' 0
      have c1 := cell_at h7' 1
      have d0 := cell_at h8' 0
      have d1 := cell_at h8' 1
      simp only [List.getElem?_toArray, List.getElem?_cons_zero, List.getElem?_cons_succ] at c0 c1 d0 d1
      clear h7' h8'
      -- what the parts are
      have i1 : IsB (wkB B0 s.data.toList) (wk W0 s.data.toList) := wkB_is B0_is _ (by rw [HSL.out]; simp only [W0]; omega) (by rw [HSL.out]; simp only [W0]; omega)
      have i2 : IsB (wkB B0 t.data.toList) (wk W0 t.data.toList) := wkB_is B0_is _ (by rw [HTL.out]; simp only [W0]; omega) (by rw [HTL.out]; simp only [W0]; omega)
      have hst : (s ++ t).data.toList = s.data.toList ++ t.data.toList := by simp
      have hstl : (s.data.toList ++ t.data.toList).length = s.size + t.size := by rw [List.length_append, HSL.out, HTL.out]
      have i3 : IsB (wkB B0 (s.data.toList ++ t.data.toList)) (wk W0 (s.data.toList ++ t.data.toList)) := wkB_is B0_is _ (by rw [hstl]; simp only [W0]; omega) (by rw [hstl]; simp only [W0]; omega)
      have b1 := wk_le W0 (s.data.toList ++ t.data.toList)
      have b2 := wk_le W0 (t.data.toList ++ s.data.toList)
      rw [wk_append, hstl] at b1
      rw [wk_append, List.length_append, HSL.out, HTL.out] at b2
      have hx0 : W0.x.natAbs = 0 := rfl
      have hy0 : W0.y.natAbs = 0 := rfl
      have k1 := Join_b i1 i2 (by omega) (by omega)
      have k2 := Join_b i2 i1 (by omega) (by omega)
      have i4 := JB_is i1 i2 (by omega) (by omega)
      rw [wk_append] at i3
      have k3 := same_yes i4 i3
      have k4 := Of_calls (s ++ t) (by rw [ByteArray.size_append]; omega)
      rw [hst] at k4
      have ts := t_sum s.data.toList
      have e1 : ((wkB B0 s.data.toList).t == u % 4) = true := by rw [i1.1, ts, HU.out]; simp
      have e2 : ((JB (wkB B0 s.data.toList) (wkB B0 t.data.toList)).t == (JB (wkB B0 t.data.toList) (wkB B0 s.data.toList)).t) = true := by
        simp only [JB, beq_iff_eq]
        omega
      have e3 : u.tmod 4 = u % 4 := Int.tmod_eq_emod_of_nonneg hsb.1
      have K1 := Lib.hid k1
      have K2 := Lib.hid k2
      have K3 := Lib.hid k3
      have K4 := Lib.hid k4
      clear k1 k2 k3 k4 i1 i2 i3 i4 b1 b2 ts hst hstl hx0 hy0
      simp only [WB.val] at K1 K2 K3 K4
      have hf := field_turn
      have hadd : ∀ w, (Op.stringOp .add s t).run Try.prog w = .ok (.string (s ++ t)) w := fun w => run_string_add_sum w s t (by omega)
      refine region_calm (by kernel_rfl) (by kernel_rfl) ?_
      repeat (quiet_step ((first | with_reducible exact later_call (K1.out _) | with_reducible exact later_call (K2.out _) | with_reducible exact later_call (K3.out _) | with_reducible exact later_call (K4.out _) | with_reducible exact later_call (known_calls _))))
      refine wpQuiet_nil ?_
      rintro _ ⟨x, rfl⟩
      go_wp2
      go_ret
      exact ⟨rfl, Later.chain hB x⟩
end Go.Proofs.Ytgddlcbaieclcaa.walkTurns
