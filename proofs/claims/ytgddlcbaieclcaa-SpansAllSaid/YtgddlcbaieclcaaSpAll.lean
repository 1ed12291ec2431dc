/-
  spans.All: its runes, one behind the other; the iterator hands them out.
-/
import Derived.Test.YtgddlcbaieclcaaRange
import Derived.Test.YtgddlcbaieclcaaSpCut
import Derived.Test.YtgddlcbaieclcaaSpLists
import Derived.Test.YtgddlcbaieclcaaSpRef
import Derived.Test.YtgddlcbaieclcaaDt
import Derived.Deep.DeepCutAuto
namespace Go.Proofs.Ytgddlcbaieclcaa.SpAll
open Go Go.RowKit Go.Proofs.Ytgddlcbaieclcaa.Kit Go.Proofs.Ytgddlcbaieclcaa.Range Go.Proofs.Ytgddlcbaieclcaa.SpFns Go.Proofs.Ytgddlcbaieclcaa.SpFind Go.Proofs.Ytgddlcbaieclcaa.SpCut Go.Proofs.Ytgddlcbaieclcaa.SpSize Go.Proofs.Ytgddlcbaieclcaa.SpLists Go.Proofs.Ytgddlcbaieclcaa.SpRef Go.Proofs.Ytgddlcbaieclcaa.Dt
attribute [local irreducible] wpQuiet

/-- The runes among m numbers from r on. -/
def rs : Nat → Int → List Int
  | 0, _ => []
  | m + 1, r => if VR r then r :: rs m (r + 1) else rs m (r + 1)
/-- Those of m spans from the i-th on. -/
def ra (L H : Nat → Int) : Nat → Nat → List Int
  | 0, _ => []
  | m + 1, i => rs (H i - L i + 1).toNat (L i) ++ ra L H m (i + 1)

set_option maxHeartbeats 1000000 in
set_option maxRecDepth 100000 in
theorem all_iter (w0 : World) (xb : Nat) (a : Option Addr) (len cap : Nat) (L H : Nat → Int) (hx : w0.heap[xb]? = some (.cells #[.slice a len cap] 50 (0, 0))) (hr : Row w0 a len L H) (hR : Rt L H len) (hl : len ≤ 17592186044416) :
    Iter Try.prog 79 #[.pointer (some ⟨xb, 0, none⟩)] (fun k => #[.int .i32 ((ra L H len 0).getD k 0)]) (ra L H len 0).length (fun b => b = xb ∨ ∃ x, a = some x ∧ x.block = b ∧ 0 < len) w0 := by
  intro l J Jx W hW hJ hJx hS hY S0 h0
  have HJ := Lib.hid hJ
  have HJx := Lib.hid hJx
  have HS := Lib.hid hS
  have HY := Lib.hid hY
  have HR := Lib.hid (hr.below hW)
  have HX := Lib.hid ((hW.block xb (lt_of_heap hx)).trans hx)
  have HRT := Lib.hid hR
  obtain ⟨T, hT⟩ : ∃ T, ra L H len 0 = T := ⟨_, rfl⟩
  have HT := Lib.hid hT
  rw [hT] at HY ⊢
  clear hW hJ hJx hS hY hr hR hx hT
  refine callsIn_wide.2 ?_
  have x0 := cell_at HX.out 0
  have xz := lt_of_heap HX.out
  simp only [List.getElem?_toArray, List.getElem?_cons_zero] at x0
  have H0 := Lib.hid h0
  clear h0
  go_enter Try.func79, Try.ntmps79
  go_wp2_with fail
  clear x0 xz
  go_loopg [10] len (fun g s10 wr => ∃ (i k : Nat) (S : Nat → Prop), i ≤ len ∧ g = len - i ∧ s10 = .int .i64 i ∧ J k S wr ∧ k ≤ T.length ∧ T.drop k = ra L H (len - i) i ∧ Row wr a len L H)
  case atStart => exact ⟨0, 0, S0, Nat.zero_le _, by omega, rfl, H0.out, Nat.zero_le _, HT.out.symm, HR.out⟩
  case round =>
    obtain ⟨i, k, S, hi, hg, rfl, hj, hk, hd, hrow⟩ := hrel
    have HG := Lib.hid hg
    have HJK := Lib.hid hj
    have HD := Lib.hid hd
    have HROW := Lib.hid hrow
    clear hg hj hd hrow
    by_cases hlt : i < len
    · obtain ⟨b, o, ha, hb, hc⟩ := HROW.out.at hlt
      obtain ⟨c0, c1⟩ := hc i hlt
      have hii : (i : Int) < len := by omega
      obtain ⟨r1, r2, r3, _⟩ := HRT.out i hlt
      have HA := Lib.hid ha
      obtain ⟨lo, hlo⟩ : ∃ z, L i = z := ⟨_, rfl⟩
      obtain ⟨hi', hhi⟩ : ∃ z, H i = z := ⟨_, rfl⟩
      rw [hlo] at c0 r1 r3
      rw [hhi] at c1 r2 r3
      have HLO := Lib.hid hlo
      have HHI := Lib.hid hhi
      have m1 : max lo 0 = lo := by unfold VR at r1; omega
      have m2 : min hi' 1114111 = hi' := by unfold VR at r2; omega
      have hcut := cut_calls lo hi'
      rw [m1, m2] at hcut
      have HC := Lib.hid hcut
      have v1 : 0 ≤ lo := by unfold VR at r1; omega
      have v2 : hi' ≤ 1114111 := by unfold VR at r2; omega
      clear hc ha hlo hhi m1 m2 hcut r1 r2
      rw [HA.out]
      go_wp2_with fail
      refine (HC.out (wr.alloc (.cells #[.int .i32 lo, .int .i32 hi'] 53))).mono ?_
      rintro e W2 ⟨rfl, hb2⟩
      have hb02 : Below wr.heap.size wr W2 := chain ((Below.refl _ _).alloc (Nat.le_refl _) _) hb2
      have hd : decide (lo ≤ hi') = true := decide_eq_true r3
      obtain ⟨W3, hW3⟩ : ∃ Xz, W2.alloc (.cells #[.int .i32 lo, .int .i32 hi'] 53) = Xz := ⟨_, rfl⟩
      obtain ⟨b5, hb5⟩ : ∃ xz, W2.heap.size = xz := ⟨_, rfl⟩
      have hb3 : Below W2.heap.size W2 W3 := by rw [← hW3]; exact (Below.refl _ _).alloc (Nat.le_refl _) _
      have H5 := Lib.hid (by rw [← hW3, ← hb5]; exact alloc_new rfl : W3.heap[b5]? = some (.cells #[.int .i32 lo, .int .i32 hi'] 53 (0, 0)))
      have EW3 := Lib.hid hW3
      have Eb5 := Lib.hid hb5
      clear hW3 hb5
      have hb03 := chain hb02 hb3
      have HJ3 := Lib.hid (HJ.out k S wr W3 HJK.out (.of_below hb03))
      have HROW := Lib.hid (HROW.out.below hb03)
      have hn5 : ¬ S b5 := fun h => by
        have h1 := ((HS.out k S wr HJK.out).2 b5 h).1
        have h2 := hb02.size
        have h3 := Eb5.out
        omega
      have HN5 := Lib.hid hn5
      clear hb2 hb02 hb3 hb03 c0 c1 hb hn5
      go_wp2_with fail
      rw [EW3.out, Eb5.out]
      go_loopg [7] (hi' - lo + 1).toNat (fun g s7 wq => ∃ (r : Int) (k' : Nat) (S' : Nat → Prop), lo ≤ r ∧ r ≤ hi' + 1 ∧ g = (hi' - r + 1).toNat ∧ s7 = .int .i32 r ∧ J k' S' wq ∧ ¬ S' b5 ∧ k' ≤ T.length ∧ T.drop k' = rs (hi' - r + 1).toNat r ++ ra L H (len - (i + 1)) (i + 1) ∧ wq.heap[b5]? = some (.cells #[.int .i32 lo, .int .i32 hi'] 53 (0, 0)) ∧ Row wq a len L H)
      case atStart =>
        refine ⟨lo, k, S, Int.le_refl _, by omega, rfl, rfl, HJ3.out, HN5.out, hk, ?_, H5.out, HROW.out⟩
        rw [HD.out, show len - i = (len - (i + 1)) + 1 by omega]
        simp only [ra, HLO.out, HHI.out]
      case round =>
        obtain ⟨r, k', S', hr1, hr2, hg2, rfl, hj, hn5, hk', hd', h5, hrow⟩ := hrel
        have HG2 := Lib.hid hg2
        have HJ2 := Lib.hid hj
        have HN5' := Lib.hid hn5
        have HD2 := Lib.hid hd'
        have H5' := Lib.hid h5
        have HROW2 := Lib.hid hrow
        clear hg2 hj hn5 hd' h5 hrow
        have f0 := cell_at H5'.out 0
        have f1 := cell_at H5'.out 1
        have fz := lt_of_heap H5'.out
        simp only [List.getElem?_toArray, List.getElem?_cons_zero, List.getElem?_cons_succ] at f0 f1
        by_cases hle : r ≤ hi'
        · have hle' : (r : Int) ≤ hi' := hle
          by_cases hv : VR r
          · have hvd : decide (VR r) = true := decide_eq_true hv
            have hD := HD2.out
            rw [show (hi' - r + 1).toNat = (hi' - (r + 1) + 1).toNat + 1 by omega] at hD
            simp only [rs, if_pos hv, List.cons_append] at hD
            have hklt : k' < T.length := by
              rcases Nat.lt_or_ge k' T.length with h | h
              · exact h
              · rw [List.drop_eq_nil_of_le h] at hD
                cases hD
            have hTk : T.getD k' 0 = r := by
              rw [List.drop_eq_getElem_cons hklt, List.cons.injEq] at hD
              rw [List.getD, List.getElem?_eq_getElem hklt, ← hD.1]
              rfl
            have hDn : T.drop (k' + 1) = rs (hi' - (r + 1) + 1).toNat (r + 1) ++ ra L H (len - (i + 1)) (i + 1) := by
              rw [List.drop_eq_getElem_cons hklt, List.cons.injEq] at hD
              exact hD.2
            obtain ⟨fn, tmps, assign, body, hy, hrd⟩ := HY.out k' S' wr hklt HJ2.out
            rw [hTk] at hy
            have HDn := Lib.hid hDn
            have HRD := Lib.hid hrd
            have hwr : IntKind.i32.wrap (r + 1) = r + 1 := by unfold VR at hv; exact IntWalk.i32_in _ ⟨by omega, by omega⟩
            clear hD hTk hDn hrd hv
            go_upto_region 7 with (fail)
            refine (wpIn_wide (n := 0)).1 ?_
            gi_wp2_with (refine ⟨trivial, rfl, ?_⟩; gi_at_call 67; refine (callsIn_wide.2 (ValidRune_calls _ _)).mono ?_; rintro e w' ⟨rfl, rfl⟩)
            refine ⟨rfl, HRD.out.mono ?_⟩
            rintro e B (⟨rfl, S2, hj, hu, hs⟩ | ⟨rfl, S2, hj, hu, hs⟩)
            · have hcap := (HS.out k' S' wr HJ2.out).2
              have h1 := lt_of_heap H5'.out
              have HJ4 := Lib.hid hj
              have HN6 := Lib.hid (fun h => (hs b5 h).elim HN5'.out (fun h => by omega) : ¬ S2 b5)
              have HROW4 := Lib.hid (SRow.keep HROW2.out hu.size (fun x hx hl => hu.block _ hl (fun h => (hcap _ h).2 (.inr ⟨x, hx, rfl, by omega⟩))))
              have H56 := Lib.hid ((hu.block b5 h1 HN5'.out).trans H5'.out)
              clear hcap h1 hj hu hs f0 f1 fz hy
              have f0 := cell_at H56.out 0
              have f1 := cell_at H56.out 1
              have fz := lt_of_heap H56.out
              simp only [List.getElem?_toArray, List.getElem?_cons_zero, List.getElem?_cons_succ] at f0 f1
              gi_wp2
              go_wp2_with fail
              go_roundg (gk - 1)
              case measure => have := HG2.out; omega
              case rel => exact ⟨r + 1, k' + 1, S2, by omega, by omega, by have := HG2.out; omega, rfl, HJ4.out, HN6.out, hklt, HDn.out, H56.out, HROW4.out⟩
            · have HJ4 := Lib.hid hj
              clear hj hu hs
              gi_wp2
              go_wp2_with fail
              refine bodyPost_ret (results_none rfl _ _ _) rfl ?_
              exact ⟨⟨_, rfl⟩, .inr ⟨k', S2, hklt, HJ4.out⟩⟩
          · have hvd : decide (VR r) = false := decide_eq_false hv
            have hD := HD2.out
            rw [show (hi' - r + 1).toNat = (hi' - (r + 1) + 1).toNat + 1 by omega] at hD
            simp only [rs, if_neg hv] at hD
            have HDn := Lib.hid hD
            have hwr : IntKind.i32.wrap (r + 1) = r + 1 := IntWalk.i32_in _ ⟨by omega, by omega⟩
            clear hD hv
            go_wp2_with fail
            refine (ValidRune_calls _ _).mono ?_
            rintro e w' ⟨rfl, rfl⟩
            go_wp2_with fail
            go_roundg (gk - 1)
            case measure => have := HG2.out; omega
            case rel => exact ⟨r + 1, k', S', by omega, by omega, by have := HG2.out; omega, rfl, HJ2.out, HN5'.out, hk', HDn.out, H5'.out, HROW2.out⟩
        · have hD := HD2.out
          rw [show (hi' - r + 1).toNat = 0 by omega] at hD
          simp only [rs, List.nil_append] at hD
          have HDn := Lib.hid hD
          clear hD
          go_wp2_with fail
          rw [← HA.out]
          go_roundg (len - (i + 1))
          case measure => have := HG.out; omega
          case rel => exact ⟨i + 1, k', S', by omega, rfl, by go_num, HJ2.out, hk', HDn.out, HROW2.out⟩
    · have hil : i = len := by omega
      subst hil
      have hD := HD.out
      rw [Nat.sub_self] at hD
      simp only [ra] at hD
      have hkT : k = T.length := by
        rcases Nat.lt_or_ge k T.length with h | h
        · rw [List.drop_eq_getElem_cons h] at hD
          cases hD
        · omega
      have HK := Lib.hid hkT
      clear hD hkT
      go_wp2_with fail
      go_end0
      rw [← HK.out]
      exact ⟨⟨_, rfl⟩, .inl ⟨S, HJK.out⟩⟩

theorem All_calls (a : Option Addr) (len cap : Nat) (w : World) : Calls Try.prog 57 #[.slice a len cap] w fun e w' =>
    e = .returned (.func (.func 79) #[] #[.pointer (some ⟨w.heap.size, 0, none⟩)]) ∧ w.alloc (.cells #[.slice a len cap] 50) = w' := by
  have hmf : ∀ (fn : Fn) (first cap : Array Value) (w : World), (Instr.makeFunc fn first cap).run Try.prog w = .ok (.func fn first cap) w := fun _ _ _ _ => rfl
  go_enter Try.func57, Try.ntmps57
  go_wp2
  go_ret
  exact ⟨rfl, rfl⟩
end Go.Proofs.Ytgddlcbaieclcaa.SpAll
