/-
  The walk of the law CutNumbers.
-/
import Derived.Test.YtendkmldecoogaaDoorCutAs
import Derived.Laws.MakeOwn
import Derived.Laws.IdiomStrings
namespace Go.Proofs.YtendkmldecoogaaDoor.cutNumbers
open Go Go.RowKit Go.Proofs.YtendkmldecoogaaDoor.Kit Go.Proofs.YtendkmldecoogaaDoor.ItGo Go.Proofs.YtendkmldecoogaaDoor.Dt Go.Proofs.YtendkmldecoogaaDoor.Mo Go.Proofs.YtendkmldecoogaaDoor.MoNew Go.Proofs.YtendkmldecoogaaDoor.CutTokens Go.Proofs.YtendkmldecoogaaDoor.House Go.Proofs.YtendkmldecoogaaDoor.CutAs
attribute [local irreducible] wpQuiet

set_option maxRecDepth 100000 in
theorem Tokens_nil (s : ByteArray) (w : World) : Calls Tryd.prog 18 #[.pointer none, .string s] w fun e w' => e = .returned (.tuple #[.slice none 0 0, .int .i64 1]) ∧ w = w' := by
  go_enter Tryd.func18, Tryd.ntmps18
  go_wp2_with fail
  refine bodyPost_ret (v := .tuple #[.slice none 0 0, .int .i64 1]) (by simp [results, Tryd.results18, go_sem, *]) rfl (⟨rfl, rfl⟩)
set_option maxRecDepth 100000 in
theorem Tokens_long (mb : Nat) (s : ByteArray) (w : World) (hs : 1048576 < s.size) : Calls Tryd.prog 18 #[.pointer (some ⟨mb, 0, none⟩), .string s] w fun e w' => e = .returned (.tuple #[.slice none 0 0, .int .i64 3]) ∧ w = w' := by
  have h1 : (1048576 : Int) < s.size := by omega
  clear hs
  go_enter Tryd.func18, Tryd.ntmps18
  go_wp2_with fail
  refine bodyPost_ret (v := .tuple #[.slice none 0 0, .int .i64 3]) (by simp [results, Tryd.results18, go_sem, *]) rfl (⟨rfl, rfl⟩)

/-- A text of very many zeros. -/
theorem zeros (w : World) : ∃ W s, (Instr.makeSlice 35 (.int .i64 1048577) (.int .i64 1048577)).run Tryd.prog w = .ok (.slice (some ⟨w.heap.size, 0, none⟩) 1048577 1048577) W ∧
    (convert 35 9 (.slice (some ⟨w.heap.size, 0, none⟩) 1048577 1048577)).run Tryd.prog W = .ok (.string s) W ∧ 1048576 < s.size ∧ Below w.heap.size w W := by
  obtain ⟨n, hn⟩ : ∃ n : Nat, n = 1048577 := ⟨_, rfl⟩
  have hi0 : (Tryd.prog.info? 5).map (fun i => (i.zero, i.size, i.bytes)) = some (some (.int .u8 0), 1, 1) := by kernel_rfl
  obtain ⟨i, hi, hz, hs, hb⟩ := info_parts hi0
  have hr := run_makeSlice (P := Tryd.prog) (w := w) 35 5 i _ Tryd.underlying35 hi hz .i64 .i64 (n : Int) (n : Int) (by omega) (by omega) (by rw [hs]; omega) (by rw [hb]; omega) (by omega)
  rw [hs, Nat.mul_one, Int.toNat_natCast] at hr
  obtain ⟨W, hW⟩ : ∃ W, w.alloc (.cells (madeCells (Value.int .u8 0).cells n) 5) = W := ⟨_, rfl⟩
  rw [hW] at hr
  have hl : (List.replicate n (0 : UInt8)).length = n := List.length_replicate
  have hc := run_convert_bytes_back (P := Tryd.prog) W 35 9 5 ⟨w.heap.size, 0, none⟩ n (List.replicate n 0) Tryd.underlying35 Tryd.underlying5 Tryd.underlying9 (fun j hj => by
    rw [add_plain, ← hW, cell_at (alloc_new rfl), Nat.zero_add]
    show (madeCells #[.int .u8 0] n)[j]? = _
    rw [← Array.getElem?_toList, toList_madeCells_one, List.getElem?_replicate, if_pos (by omega)]
    simp)
  rw [hl] at hc
  have hz' : (ByteArray.mk (List.replicate n (0 : UInt8)).toArray).size = n := by simp [ByteArray.size]
  have hb : Below w.heap.size w W := by rw [← hW]; exact (Below.refl _ _).alloc (Nat.le_refl _) _
  subst hn
  exact ⟨W, _, hr, hc, by rw [hz']; decide, hb⟩

theorem run_1 : cutsB [39, 115, 117, 110] [[39, 115], [117, 110]] = true := by decide +kernel
theorem run_2 : cutsB [39, 114, 101, 39, 120] [[39, 114, 101], [39], [120]] = true := by decide +kernel
theorem run_3 : cutsB [33, 39, 115] [[33, 39], [115]] = true := by decide +kernel
theorem run_4 : cutsB [32, 39, 115] [[32, 39], [115]] = true := by decide +kernel
theorem run_5 : cutsB [32, 32, 32] [[32, 32, 32]] = true := by decide +kernel
theorem run_6 : cutsB [97, 32, 32] [[97], [32, 32]] = true := by decide +kernel
theorem run_7 : cutsB [10, 32, 97] [[10], [32, 97]] = true := by decide +kernel
theorem run_8 : cutsB [195, 169, 255, 33] [[195, 169], [255, 33]] = true := by decide +kernel
theorem run_9 : cutsB [] [] = true := by decide +kernel
theorem run_10 : cutsB [39, 108] [[39], [108]] = true := by decide +kernel
theorem run_11 : cutsB [39, 108, 108] [[39, 108, 108]] = true := by decide +kernel

set_option maxHeartbeats 4000000 in
set_option maxRecDepth 100000 in
theorem walk (w : World) (hT : Tabs w) : Calls Tryd.prog 3 #[] w fun e w' => e = .returned (.bool true) ∧ Below w.heap.size w w' := by
  have HT := Lib.hid hT
  clear hT
  go_enter Tryd.func3, Tryd.ntmps3
  go_wp2_with fail
  refine (Tokens_nil _ _).mono ?_
  rintro e w' ⟨rfl, rfl⟩
  go_wp2_with fail
  refine (House_calls w).mono ?_
  rintro e W1 ⟨p, rfl, hA, hb1⟩
  have HB := Lib.hid hb1
  have HA := Lib.hid hA
  clear hA hb1
  go_wp2_with fail
  refine (model_calls p W1 HA.out).mono ?_
  rintro e W2 ⟨mb, rfl, hM, hb2⟩
  have HB := Lib.hid (chain HB.out hb2)
  clear hM hb2
  obtain ⟨W3, s, hmk, hcv, hs, hb3⟩ := zeros W2
  have HB := Lib.hid (chain HB.out hb3)
  have HS := Lib.hid hs
  clear hb3 hs
  go_wp2_with fail
  refine (Tokens_long mb s W3 HS.out).mono ?_
  rintro e w' ⟨rfl, rfl⟩
  clear hmk hcv
  go_wp2_with fail
  refine (cutAs_new _ _ run_1 (by decide) (by decide) W3 (HT.out.below HB.out) _ _ _ rfl rfl rfl).mono ?_
  rintro e V1 ⟨rfl, hb⟩
  have HB := Lib.hid (chain HB.out hb)
  clear hb
  go_wp2_with fail
  refine (cutAs_new _ _ run_2 (by decide) (by decide) V1 (HT.out.below HB.out) _ _ _ rfl rfl rfl).mono ?_
  rintro e V2 ⟨rfl, hb⟩
  have HB := Lib.hid (chain HB.out hb)
  clear hb
  go_wp2_with fail
  refine (cutAs_new _ _ run_3 (by decide) (by decide) V2 (HT.out.below HB.out) _ _ _ rfl rfl rfl).mono ?_
  rintro e V3 ⟨rfl, hb⟩
  have HB := Lib.hid (chain HB.out hb)
  clear hb
  go_wp2_with fail
  refine (cutAs_new _ _ run_4 (by decide) (by decide) V3 (HT.out.below HB.out) _ _ _ rfl rfl rfl).mono ?_
  rintro e V4 ⟨rfl, hb⟩
  have HB := Lib.hid (chain HB.out hb)
  clear hb
  go_wp2_with fail
  refine (cutAs_new _ _ run_5 (by decide) (by decide) V4 (HT.out.below HB.out) _ _ _ rfl rfl rfl).mono ?_
  rintro e V5 ⟨rfl, hb⟩
  have HB := Lib.hid (chain HB.out hb)
  clear hb
  go_wp2_with fail
  refine (cutAs_new _ _ run_6 (by decide) (by decide) V5 (HT.out.below HB.out) _ _ _ rfl rfl rfl).mono ?_
  rintro e V6 ⟨rfl, hb⟩
  have HB := Lib.hid (chain HB.out hb)
  clear hb
  go_wp2_with fail
  refine (cutAs_new _ _ run_7 (by decide) (by decide) V6 (HT.out.below HB.out) _ _ _ rfl rfl rfl).mono ?_
  rintro e V7 ⟨rfl, hb⟩
  have HB := Lib.hid (chain HB.out hb)
  clear hb
  go_wp2_with fail
  refine (cutAs_new _ _ run_8 (by decide) (by decide) V7 (HT.out.below HB.out) _ _ _ rfl rfl rfl).mono ?_
  rintro e V8 ⟨rfl, hb⟩
  have HB := Lib.hid (chain HB.out hb)
  clear hb
  go_wp2_with fail
  refine (cutAs_none _ run_9 (by decide) V8 (HT.out.below HB.out)).mono ?_
  rintro e V9 ⟨rfl, hb⟩
  have HB := Lib.hid (chain HB.out hb)
  clear hb
  go_wp2_with fail
  refine (cutAs_new _ _ run_10 (by decide) (by decide) V9 (HT.out.below HB.out) _ _ _ rfl rfl rfl).mono ?_
  rintro e V10 ⟨rfl, hb⟩
  have HB := Lib.hid (chain HB.out hb)
  clear hb
  go_wp2_with fail
  refine (cutAs_new _ _ run_11 (by decide) (by decide) V10 (HT.out.below HB.out) _ _ _ rfl rfl rfl).mono ?_
  rintro e V11 ⟨rfl, hb⟩
  have HB := Lib.hid (chain HB.out hb)
  clear hb
  go_wp2_with fail
  refine (known_calls V11 (HT.out.below HB.out)).mono ?_
  rintro e W9 ⟨rfl, hb⟩
  have HB := Lib.hid (chain HB.out hb)
  clear hb
  go_wp2_with fail
  go_ret
  exact ⟨rfl, HB.out⟩
end Go.Proofs.YtendkmldecoogaaDoor.cutNumbers
