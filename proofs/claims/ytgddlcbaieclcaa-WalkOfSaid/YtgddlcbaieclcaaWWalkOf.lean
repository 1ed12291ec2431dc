/-
  The walk of the law WalkOf: it answers true.
-/
import Derived.Test.YtgddlcbaieclcaaWalkKnown
import Derived.OpenShut
namespace Go.Proofs.Ytgddlcbaieclcaa.walkOf
open Go Go.RowKit Go.Proofs.Ytgddlcbaieclcaa.WalkNum Go.Proofs.Ytgddlcbaieclcaa.Kit Go.Proofs.Ytgddlcbaieclcaa.WalkFns

theorem wk_one (c : Int) (h0 : 0 ≤ c) (h1 : c < 256) : wk W0 [UInt8.ofNat c.toNat] = byteW c := by
  have e : ((UInt8.ofNat c.toNat).toNat : Int) = c := by
    rw [UInt8.toNat_ofNat']
    omega
  show J W0 (byteW ((UInt8.ofNat c.toNat).toNat : Int)) = byteW c
  rw [e]
  unfold J byteW W0 rot
  simp

set_option maxRecDepth 100000 in
set_option maxHeartbeats 2000000 in
theorem walk (a0 : Int) (a1 : ByteArray) (w0 : (Lit.int .u8 a0).wf = true) (w1 : a1.size ≤ maxLen) (w : World) :
    Calls Try.prog 3 #[.int .u8 a0, .string a1] w fun e w' => e = .returned (.bool true) ∧ Below w.heap.size w w' := by
  have hu : 0 ≤ a0 ∧ a0 < 256 := by have := bounds_u8 w0; omega
  obtain ⟨s, hs⟩ : ∃ s, s = few a1 5000 := ⟨_, rfl⟩
  have hsz := few_size a1 5000
  rw [← hs] at hsz
  have hle := wk_le W0 s.data.toList
  have hsl : s.data.toList.length = s.size := by simp
  have hx0 : W0.x.natAbs = 0 := rfl
  have hy0 : W0.y.natAbs = 0 := rfl
  rw [hsl, hx0, hy0] at hle
  have HL := Lib.hid hsl
  have HS := Lib.hid hs
  clear hs hsl hx0 hy0
  go_enter Try.func3, Try.ntmps3
  go_wp2_with fail
  refine (few_calls a1 5000 _).mono ?_
  rintro e w1 ⟨rfl, rfl⟩
  rw [← HS.out]
  go_wp2_with fail
  refine (refOf_calls s (by omega) _).mono ?_
  rintro e w2 ⟨rfl, hb2⟩
  go_wp2_with fail
  have k1 := is_yes (wkB_is B0_is s.data.toList (by rw [HL.out]; simp only [W0]; omega) (by rw [HL.out]; simp only [W0]; omega))
  have k2 := is_yes (m := wk W0 [UInt8.ofNat a0.toNat]) (by rw [wk_one a0 hu.1 hu.2]; exact byteB_is a0 hu.1 hu.2)
  have k3 : ∀ w, Calls Try.prog 19 #[.string ⟨#[UInt8.ofNat a0.toNat]⟩] w fun e w' => e = .returned (wk W0 [UInt8.ofNat a0.toNat]).val ∧ Below w.heap.size w w' := refOf_calls ⟨#[UInt8.ofNat a0.toNat]⟩ (show 1 ≤ 1000000 by decide)
  have K1 := Lib.hid k1
  have K2 := Lib.hid k2
  have K3 := Lib.hid k3
  clear k1 k2 k3
  simp only [WB.val, W3.val] at K1 K2 K3
  have hB2 := hb2.size
  obtain ⟨W, hW⟩ : ∃ W, W = w2.alloc (.cells #[.int .i64 (wk W0 s.data.toList).t, .int .i64 (wk W0 s.data.toList).x, .int .i64 (wk W0 s.data.toList).y] 24) := ⟨_, rfl⟩
  have hB : Below w.heap.size w W := by rw [hW]; exact hb2.alloc hB2 _
  have hh : W.heap[w2.heap.size]? = some (.cells #[.int .i64 (wk W0 s.data.toList).t, .int .i64 (wk W0 s.data.toList).x, .int .i64 (wk W0 s.data.toList).y] 24 (0, 0)) := by rw [hW]; exact alloc_new rfl
  rw [← hW]
  clear hW
  have hz := lt_of_heap hh
  have c0 := cell_at hh 0
  have c1 := cell_at hh 1
  have c2 := cell_at hh 2
  simp only [List.getElem?_toArray, List.getElem?_cons_zero, List.getElem?_cons_succ] at c0 c1 c2
  have HH := Lib.hid hh
  clear hh hb2 hB2
  have hcv : ∀ (W' : World) (b : Nat), W'.cell? ⟨b, 0, none⟩ = some (.int .u8 a0) → (convert 32 9 (.slice (some ⟨b, 0, none⟩) 1 1)).run Try.prog W' = .ok (.string ⟨#[UInt8.ofNat a0.toNat]⟩) W' := fun W' b h =>
    run_convert_bytes_arg W' 32 5 Try.underlying32 Try.underlying5 b 0 1 1 [a0] rfl (fun i hi => by
      obtain rfl : i = 0 := by omega
      exact h) 9 Try.underlying9
  refine RG_begin 17 #[false, false, false, false, false, false, false, false, false, false, false, false, false, false, false, false, false] rfl rfl (by kernel_rfl) (fun R hR hacc => ?_)
  refine RG_take (i := 0) (v := ?v1) (some 40) #[true, false, false, false, false, false, false, false, false, false, false, false, false, false, false, false, false] rfl rfl (by kernel_rfl) (by kernel_rfl) (by kernel_rfl) rfl rfl (fun x => ?h1) ?n1
  case h1 => (go_simp; try with_reducible rfl)
  try simp only [Act.put, List.setIfInBounds_toArray, List.set_cons_zero, List.set_cons_succ]
  refine RG_take (i := 2) (v := ?v2) (some 42) #[true, false, true, false, false, false, false, false, false, false, false, false, false, false, false, false, false] rfl rfl (by kernel_rfl) (by kernel_rfl) (by kernel_rfl) rfl rfl (fun x => ?h2) ?n2
  case h2 => (go_simp; try with_reducible rfl)
  try simp only [Act.put, List.setIfInBounds_toArray, List.set_cons_zero, List.set_cons_succ]
  refine RG_one (i := 1) #[true, true, true, false, false, false, false, false, false, false, false, false, false, false, false, false, false] rfl (by kernel_rfl) rfl rfl (fun K hK => ?_)
  go_wp2_with (first | (go_at_call 21; (with_reducible refine (Of_calls s (by omega) _).mono ?_); rintro e wx ⟨rfl, hbx⟩) | (go_at_call 20; (with_reducible refine (K1.out _).mono ?_); rintro e wx ⟨rfl, hbx⟩) | (go_at_call 20; (with_reducible refine (K2.out _).mono ?_); rintro e wx ⟨rfl, hbx⟩) | (go_at_call 22; (with_reducible refine (Byte_calls _ hu.1 hu.2 _).mono ?_); rintro e wx ⟨rfl, hbx⟩) | (go_at_call 19; (with_reducible refine (K3.out _).mono ?_); rintro e wx ⟨rfl, hbx⟩) | (go_at_call 23; (with_reducible refine (known_calls _).mono ?_); rintro e wx ⟨rfl, hbx⟩))
  refine RG_step hK hacc (by first | exact hbx | exact (Below.refl _ _).alloc (Nat.le_refl _) _ | exact Below.refl _ _) (fun hacc => ?_)
  clear hK K
  try simp only [Act.put, List.setIfInBounds_toArray, List.set_cons_zero, List.set_cons_succ]
  refine RG_one (i := 3) #[true, true, true, true, false, false, false, false, false, false, false, false, false, false, false, false, false] rfl (by kernel_rfl) rfl rfl (fun K hK => ?_)
  go_wp2_with (first | (go_at_call 21; (with_reducible refine (Of_calls s (by omega) _).mono ?_); rintro e wx ⟨rfl, hbx⟩) | (go_at_call 20; (with_reducible refine (K1.out _).mono ?_); rintro e wx ⟨rfl, hbx⟩) | (go_at_call 20; (with_reducible refine (K2.out _).mono ?_); rintro e wx ⟨rfl, hbx⟩) | (go_at_call 22; (with_reducible refine (Byte_calls _ hu.1 hu.2 _).mono ?_); rintro e wx ⟨rfl, hbx⟩) | (go_at_call 19; (with_reducible refine (K3.out _).mono ?_); rintro e wx ⟨rfl, hbx⟩) | (go_at_call 23; (with_reducible refine (known_calls _).mono ?_); rintro e wx ⟨rfl, hbx⟩))
  refine RG_step hK hacc (by first | exact hbx | exact (Below.refl _ _).alloc (Nat.le_refl _) _ | exact Below.refl _ _) (fun hacc => ?_)
  clear hK K
  try simp only [Act.put, List.setIfInBounds_toArray, List.set_cons_zero, List.set_cons_succ]
  refine RG_take (i := 4) (v := ?v3) (some 44) #[true, true, true, true, true, false, false, false, false, false, false, false, false, false, false, false, false] rfl rfl (by kernel_rfl) (by kernel_rfl) (by kernel_rfl) rfl rfl (fun x => ?h3) ?n3
  case h3 => (go_simp; try with_reducible rfl)
  try simp only [Act.put, List.setIfInBounds_toArray, List.set_cons_zero, List.set_cons_succ]
  refine RG_take (i := 5) (v := ?v4) (some 45) #[true, true, true, true, true, true, false, false, false, false, false, false, false, false, false, false, false] rfl rfl (by kernel_rfl) (by kernel_rfl) (by kernel_rfl) rfl rfl (fun x => ?h4) ?n4
  case h4 => (go_simp; try with_reducible rfl)
  try simp only [Act.put, List.setIfInBounds_toArray, List.set_cons_zero, List.set_cons_succ]
  refine RG_take (i := 7) (v := ?v5) (some 47) #[true, true, true, true, true, true, false, true, false, false, false, false, false, false, false, false, false] rfl rfl (by kernel_rfl) (by kernel_rfl) (by kernel_rfl) rfl rfl (fun x => ?h5) ?n5
  case h5 => (go_simp; try with_reducible rfl)
  try simp only [Act.put, List.setIfInBounds_toArray, List.set_cons_zero, List.set_cons_succ]
  refine RG_two (i := 6) (j := 8) #[true, true, true, true, true, true, true, true, false, false, false, false, false, false, false, false, false] #[true, true, true, true, true, true, false, true, true, false, false, false, false, false, false, false, false] (by kernel_rfl) rfl rfl rfl rfl rfl rfl (fun K hK => ?_) (fun K hK => ?_)
  · go_wp2_with (first | (go_at_call 21; (with_reducible refine (Of_calls s (by omega) _).mono ?_); rintro e wx ⟨rfl, hbx⟩) | (go_at_call 20; (with_reducible refine (K1.out _).mono ?_); rintro e wx ⟨rfl, hbx⟩) | (go_at_call 20; (with_reducible refine (K2.out _).mono ?_); rintro e wx ⟨rfl, hbx⟩) | (go_at_call 22; (with_reducible refine (Byte_calls _ hu.1 hu.2 _).mono ?_); rintro e wx ⟨rfl, hbx⟩) | (go_at_call 19; (with_reducible refine (K3.out _).mono ?_); rintro e wx ⟨rfl, hbx⟩) | (go_at_call 23; (with_reducible refine (known_calls _).mono ?_); rintro e wx ⟨rfl, hbx⟩))
    refine RG_step hK hacc (by first | exact hbx | exact (Below.refl _ _).alloc (Nat.le_refl _) _ | exact Below.refl _ _) (fun hacc => ?_)
    clear hK K
    try simp only [Act.put, List.setIfInBounds_toArray, List.set_cons_zero, List.set_cons_succ]
    refine RG_one (i := 8) #[true, true, true, true, true, true, true, true, true, false, false, false, false, false, false, false, false] rfl (by kernel_rfl) rfl rfl (fun K hK => ?_)
    go_wp2_with (first | (go_at_call 21; (with_reducible refine (Of_calls s (by omega) _).mono ?_); rintro e wx ⟨rfl, hbx⟩) | (go_at_call 20; (with_reducible refine (K1.out _).mono ?_); rintro e wx ⟨rfl, hbx⟩) | (go_at_call 20; (with_reducible refine (K2.out _).mono ?_); rintro e wx ⟨rfl, hbx⟩) | (go_at_call 22; (with_reducible refine (Byte_calls _ hu.1 hu.2 _).mono ?_); rintro e wx ⟨rfl, hbx⟩) | (go_at_call 19; (with_reducible refine (K3.out _).mono ?_); rintro e wx ⟨rfl, hbx⟩) | (go_at_call 23; (with_reducible refine (known_calls _).mono ?_); rintro e wx ⟨rfl, hbx⟩))
    refine RG_step hK hacc (by first | exact hbx | exact (Below.refl _ _).alloc (Nat.le_refl _) _ | exact Below.refl _ _) (fun hacc => ?_)
    clear hK K
    try simp only [Act.put, List.setIfInBounds_toArray, List.set_cons_zero, List.set_cons_succ]
    refine RG_take (i := 9) (v := ?v6) (some 49) #[true, true, true, true, true, true, true, true, true, true, false, false, false, false, false, false, false] rfl rfl (by kernel_rfl) (by kernel_rfl) (by kernel_rfl) rfl rfl (fun x => ?h6) ?n6
    case h6 => (go_simp; try with_reducible rfl)
    try simp only [Act.put, List.setIfInBounds_toArray, List.set_cons_zero, List.set_cons_succ]
    refine RG_one (i := 10) #[true, true, true, true, true, true, true, true, true, true, true, false, false, false, false, false, false] rfl (by kernel_rfl) rfl rfl (fun K hK => ?_)
    go_wp2_with (first | (go_at_call 21; (with_reducible refine (Of_calls s (by omega) _).mono ?_); rintro e wx ⟨rfl, hbx⟩) | (go_at_call 20; (with_reducible refine (K1.out _).mono ?_); rintro e wx ⟨rfl, hbx⟩) | (go_at_call 20; (with_reducible refine (K2.out _).mono ?_); rintro e wx ⟨rfl, hbx⟩) | (go_at_call 22; (with_reducible refine (Byte_calls _ hu.1 hu.2 _).mono ?_); rintro e wx ⟨rfl, hbx⟩) | (go_at_call 19; (with_reducible refine (K3.out _).mono ?_); rintro e wx ⟨rfl, hbx⟩) | (go_at_call 23; (with_reducible refine (known_calls _).mono ?_); rintro e wx ⟨rfl, hbx⟩))
    refine RG_step hK hacc (by first | exact hbx | exact (Below.refl _ _).alloc (Nat.le_refl _) _ | exact Below.refl _ _) (fun hacc => ?_)
    clear hK K
    try simp only [Act.put, List.setIfInBounds_toArray, List.set_cons_zero, List.set_cons_succ]
    refine RG_one (i := 11) #[true, true, true, true, true, true, true, true, true, true, true, true, false, false, false, false, false] rfl (by kernel_rfl) rfl rfl (fun K hK => ?_)
    go_wp2_with (first | (go_at_call 21; (with_reducible refine (Of_calls s (by omega) _).mono ?_); rintro e wx ⟨rfl, hbx⟩) | (go_at_call 20; (with_reducible refine (K1.out _).mono ?_); rintro e wx ⟨rfl, hbx⟩) | (go_at_call 20; (with_reducible refine (K2.out _).mono ?_); rintro e wx ⟨rfl, hbx⟩) | (go_at_call 22; (with_reducible refine (Byte_calls _ hu.1 hu.2 _).mono ?_); rintro e wx ⟨rfl, hbx⟩) | (go_at_call 19; (with_reducible refine (K3.out _).mono ?_); rintro e wx ⟨rfl, hbx⟩) | (go_at_call 23; (with_reducible refine (known_calls _).mono ?_); rintro e wx ⟨rfl, hbx⟩))
    refine RG_step hK hacc (by first | exact hbx | exact (Below.refl _ _).alloc (Nat.le_refl _) _ | exact Below.refl _ _) (fun hacc => ?_)
    clear hK K
    try simp only [Act.put, List.setIfInBounds_toArray, List.set_cons_zero, List.set_cons_succ]
    refine RG_take (i := 12) (v := ?v7) (some 52) #[true, true, true, true, true, true, true, true, true, true, true, true, true, false, false, false, false] rfl rfl (by kernel_rfl) (by kernel_rfl) (by kernel_rfl) rfl rfl (fun x => ?h7) ?n7
    case h7 => (go_simp; try with_reducible rfl)
    try simp only [Act.put, List.setIfInBounds_toArray, List.set_cons_zero, List.set_cons_succ]
    refine RG_take (i := 13) (v := ?v8) (some 53) #[true, true, true, true, true, true, true, true, true, true, true, true, true, true, false, false, false] rfl rfl (by kernel_rfl) (by kernel_rfl) (by kernel_rfl) rfl rfl (fun x => ?h8) ?n8
    case h8 => (go_simp; try with_reducible rfl)
    try simp only [Act.put, List.setIfInBounds_toArray, List.set_cons_zero, List.set_cons_succ]
    refine RG_one (i := 14) #[true, true, true, true, true, true, true, true, true, true, true, true, true, true, true, false, false] rfl (by kernel_rfl) rfl rfl (fun K hK => ?_)
    go_wp2_with (first | (go_at_call 21; (with_reducible refine (Of_calls s (by omega) _).mono ?_); rintro e wx ⟨rfl, hbx⟩) | (go_at_call 20; (with_reducible refine (K1.out _).mono ?_); rintro e wx ⟨rfl, hbx⟩) | (go_at_call 20; (with_reducible refine (K2.out _).mono ?_); rintro e wx ⟨rfl, hbx⟩) | (go_at_call 22; (with_reducible refine (Byte_calls _ hu.1 hu.2 _).mono ?_); rintro e wx ⟨rfl, hbx⟩) | (go_at_call 19; (with_reducible refine (K3.out _).mono ?_); rintro e wx ⟨rfl, hbx⟩) | (go_at_call 23; (with_reducible refine (known_calls _).mono ?_); rintro e wx ⟨rfl, hbx⟩))
    refine RG_step hK hacc (by first | exact hbx | exact (Below.refl _ _).alloc (Nat.le_refl _) _ | exact Below.refl _ _) (fun hacc => ?_)
    clear hK K
    try simp only [Act.put, List.setIfInBounds_toArray, List.set_cons_zero, List.set_cons_succ]
    refine RG_take (i := 15) (v := ?v9) (some 55) #[true, true, true, true, true, true, true, true, true, true, true, true, true, true, true, true, false] rfl rfl (by kernel_rfl) (by kernel_rfl) (by kernel_rfl) rfl rfl (fun x => ?h9) ?n9
    case h9 => (go_simp; try with_reducible rfl)
    try simp only [Act.put, List.setIfInBounds_toArray, List.set_cons_zero, List.set_cons_succ]
    refine RG_take (i := 16) (v := ?v10) (some 4) #[true, true, true, true, true, true, true, true, true, true, true, true, true, true, true, true, true] rfl rfl (by kernel_rfl) (by kernel_rfl) (by kernel_rfl) rfl rfl (fun x => ?h10) ?n10
    case h10 => (go_simp; try with_reducible rfl)
    try simp only [Act.put, List.setIfInBounds_toArray, List.set_cons_zero, List.set_cons_succ]
    refine RG_done (by kernel_rfl) ?_
    refine hR _ _ ?_
    go_wp2
    go_ret
    exact ⟨by first | rfl | simp, hB.trans (hacc.mono hB.size)⟩
  · go_wp2_with (first | (go_at_call 21; (with_reducible refine (Of_calls s (by omega) _).mono ?_); rintro e wx ⟨rfl, hbx⟩) | (go_at_call 20; (with_reducible refine (K1.out _).mono ?_); rintro e wx ⟨rfl, hbx⟩) | (go_at_call 20; (with_reducible refine (K2.out _).mono ?_); rintro e wx ⟨rfl, hbx⟩) | (go_at_call 22; (with_reducible refine (Byte_calls _ hu.1 hu.2 _).mono ?_); rintro e wx ⟨rfl, hbx⟩) | (go_at_call 19; (with_reducible refine (K3.out _).mono ?_); rintro e wx ⟨rfl, hbx⟩) | (go_at_call 23; (with_reducible refine (known_calls _).mono ?_); rintro e wx ⟨rfl, hbx⟩))
    refine RG_step hK hacc (by first | exact hbx | exact (Below.refl _ _).alloc (Nat.le_refl _) _ | exact Below.refl _ _) (fun hacc => ?_)
    clear hK K
    try simp only [Act.put, List.setIfInBounds_toArray, List.set_cons_zero, List.set_cons_succ]
    refine RG_take (i := 9) (v := ?v11) (some 49) #[true, true, true, true, true, true, false, true, true, true, false, false, false, false, false, false, false] rfl rfl (by kernel_rfl) (by kernel_rfl) (by kernel_rfl) rfl rfl (fun x => ?h11) ?n11
    case h11 => (go_simp; try with_reducible rfl)
    try simp only [Act.put, List.setIfInBounds_toArray, List.set_cons_zero, List.set_cons_succ]
    refine RG_one (i := 6) #[true, true, true, true, true, true, true, true, true, true, false, false, false, false, false, false, false] rfl (by kernel_rfl) rfl rfl (fun K hK => ?_)
    go_wp2_with (first | (go_at_call 21; (with_reducible refine (Of_calls s (by omega) _).mono ?_); rintro e wx ⟨rfl, hbx⟩) | (go_at_call 20; (with_reducible refine (K1.out _).mono ?_); rintro e wx ⟨rfl, hbx⟩) | (go_at_call 20; (with_reducible refine (K2.out _).mono ?_); rintro e wx ⟨rfl, hbx⟩) | (go_at_call 22; (with_reducible refine (Byte_calls _ hu.1 hu.2 _).mono ?_); rintro e wx ⟨rfl, hbx⟩) | (go_at_call 19; (with_reducible refine (K3.out _).mono ?_); rintro e wx ⟨rfl, hbx⟩) | (go_at_call 23; (with_reducible refine (known_calls _).mono ?_); rintro e wx ⟨rfl, hbx⟩))
    refine RG_step hK hacc (by first | exact hbx | exact (Below.refl _ _).alloc (Nat.le_refl _) _ | exact Below.refl _ _) (fun hacc => ?_)
    clear hK K
    try simp only [Act.put, List.setIfInBounds_toArray, List.set_cons_zero, List.set_cons_succ]
    refine RG_one (i := 10) #[true, true, true, true, true, true, true, true, true, true, true, false, false, false, false, false, false] rfl (by kernel_rfl) rfl rfl (fun K hK => ?_)
    go_wp2_with (first | (go_at_call 21; (with_reducible refine (Of_calls s (by omega) _).mono ?_); rintro e wx ⟨rfl, hbx⟩) | (go_at_call 20; (with_reducible refine (K1.out _).mono ?_); rintro e wx ⟨rfl, hbx⟩) | (go_at_call 20; (with_reducible refine (K2.out _).mono ?_); rintro e wx ⟨rfl, hbx⟩) | (go_at_call 22; (with_reducible refine (Byte_calls _ hu.1 hu.2 _).mono ?_); rintro e wx ⟨rfl, hbx⟩) | (go_at_call 19; (with_reducible refine (K3.out _).mono ?_); rintro e wx ⟨rfl, hbx⟩) | (go_at_call 23; (with_reducible refine (known_calls _).mono ?_); rintro e wx ⟨rfl, hbx⟩))
    refine RG_step hK hacc (by first | exact hbx | exact (Below.refl _ _).alloc (Nat.le_refl _) _ | exact Below.refl _ _) (fun hacc => ?_)
    clear hK K
    try simp only [Act.put, List.setIfInBounds_toArray, List.set_cons_zero, List.set_cons_succ]
    refine RG_one (i := 11) #[true, true, true, true, true, true, true, true, true, true, true, true, false, false, false, false, false] rfl (by kernel_rfl) rfl rfl (fun K hK => ?_)
    go_wp2_with (first | (go_at_call 21; (with_reducible refine (Of_calls s (by omega) _).mono ?_); rintro e wx ⟨rfl, hbx⟩) | (go_at_call 20; (with_reducible refine (K1.out _).mono ?_); rintro e wx ⟨rfl, hbx⟩) | (go_at_call 20; (with_reducible refine (K2.out _).mono ?_); rintro e wx ⟨rfl, hbx⟩) | (go_at_call 22; (with_reducible refine (Byte_calls _ hu.1 hu.2 _).mono ?_); rintro e wx ⟨rfl, hbx⟩) | (go_at_call 19; (with_reducible refine (K3.out _).mono ?_); rintro e wx ⟨rfl, hbx⟩) | (go_at_call 23; (with_reducible refine (known_calls _).mono ?_); rintro e wx ⟨rfl, hbx⟩))
    refine RG_step hK hacc (by first | exact hbx | exact (Below.refl _ _).alloc (Nat.le_refl _) _ | exact Below.refl _ _) (fun hacc => ?_)
    clear hK K
    try simp only [Act.put, List.setIfInBounds_toArray, List.set_cons_zero, List.set_cons_succ]
    refine RG_take (i := 12) (v := ?v12) (some 52) #[true, true, true, true, true, true, true, true, true, true, true, true, true, false, false, false, false] rfl rfl (by kernel_rfl) (by kernel_rfl) (by kernel_rfl) rfl rfl (fun x => ?h12) ?n12
    case h12 => (go_simp; try with_reducible rfl)
    try simp only [Act.put, List.setIfInBounds_toArray, List.set_cons_zero, List.set_cons_succ]
    refine RG_take (i := 13) (v := ?v13) (some 53) #[true, true, true, true, true, true, true, true, true, true, true, true, true, true, false, false, false] rfl rfl (by kernel_rfl) (by kernel_rfl) (by kernel_rfl) rfl rfl (fun x => ?h13) ?n13
    case h13 => (go_simp; try with_reducible rfl)
    try simp only [Act.put, List.setIfInBounds_toArray, List.set_cons_zero, List.set_cons_succ]
    refine RG_one (i := 14) #[true, true, true, true, true, true, true, true, true, true, true, true, true, true, true, false, false] rfl (by kernel_rfl) rfl rfl (fun K hK => ?_)
    go_wp2_with (first | (go_at_call 21; (with_reducible refine (Of_calls s (by omega) _).mono ?_); rintro e wx ⟨rfl, hbx⟩) | (go_at_call 20; (with_reducible refine (K1.out _).mono ?_); rintro e wx ⟨rfl, hbx⟩) | (go_at_call 20; (with_reducible refine (K2.out _).mono ?_); rintro e wx ⟨rfl, hbx⟩) | (go_at_call 22; (with_reducible refine (Byte_calls _ hu.1 hu.2 _).mono ?_); rintro e wx ⟨rfl, hbx⟩) | (go_at_call 19; (with_reducible refine (K3.out _).mono ?_); rintro e wx ⟨rfl, hbx⟩) | (go_at_call 23; (with_reducible refine (known_calls _).mono ?_); rintro e wx ⟨rfl, hbx⟩))
    refine RG_step hK hacc (by first | exact hbx | exact (Below.refl _ _).alloc (Nat.le_refl _) _ | exact Below.refl _ _) (fun hacc => ?_)
    clear hK K
    try simp only [Act.put, List.setIfInBounds_toArray, List.set_cons_zero, List.set_cons_succ]
    refine RG_take (i := 15) (v := ?v14) (some 55) #[true, true, true, true, true, true, true, true, true, true, true, true, true, true, true, true, false] rfl rfl (by kernel_rfl) (by kernel_rfl) (by kernel_rfl) rfl rfl (fun x => ?h14) ?n14
    case h14 => (go_simp; try with_reducible rfl)
    try simp only [Act.put, List.setIfInBounds_toArray, List.set_cons_zero, List.set_cons_succ]
    refine RG_take (i := 16) (v := ?v15) (some 4) #[true, true, true, true, true, true, true, true, true, true, true, true, true, true, true, true, true] rfl rfl (by kernel_rfl) (by kernel_rfl) (by kernel_rfl) rfl rfl (fun x => ?h15) ?n15
    case h15 => (go_simp; try with_reducible rfl)
    try simp only [Act.put, List.setIfInBounds_toArray, List.set_cons_zero, List.set_cons_succ]
    refine RG_done (by kernel_rfl) ?_
    refine hR _ _ ?_
    go_wp2
    go_ret
    exact ⟨by first | rfl | simp, hB.trans (hacc.mono hB.size)⟩
end Go.Proofs.Ytgddlcbaieclcaa.walkOf
