/-
  encode: Parts.
-/
import Derived.Test.YtkjkgpdfhmoenaaDoorEncOver
import Derived.Test.YtkjkgpdfhmoenaaDoorShelfJ
namespace Go.Proofs.YtkjkgpdfhmoenaaDoor.EncGo
open Go Go.RowKit Go.Proofs.YtkjkgpdfhmoenaaDoor.Kit Go.Proofs.YtkjkgpdfhmoenaaDoor.ItGo Go.Proofs.YtkjkgpdfhmoenaaDoor.Dt Go.Proofs.YtkjkgpdfhmoenaaDoor.Mo Go.Proofs.YtkjkgpdfhmoenaaDoor.MoNew Go.Proofs.YtkjkgpdfhmoenaaDoor.EncLaw
attribute [local irreducible] wpQuiet wpStill
set_option linter.unusedSimpArgs false

/-- Texts as they lie in memory. -/
def TxRow (w : World) (a : Option Addr) (L : List ByteArray) : Prop := L.length = 0 ∨ ∃ g o, a = some ⟨g, o, none⟩ ∧ g < w.heap.size ∧ ∀ (j : Nat) x, L[j]? = some x → w.cell? ⟨g, o + j, none⟩ = some (.string x)
theorem TxRow.below {w w' : World} {a : Option Addr} {L : List ByteArray} (h : TxRow w a L) (hb : Below w.heap.size w w') : TxRow w' a L := by
  rcases h with h | ⟨g, o, rfl, h1, h2⟩
  · exact .inl h
  · exact .inr ⟨g, o, rfl, Nat.lt_of_lt_of_le h1 hb.size, fun j x hx => (World.cell?_of_block (a := ⟨g, o + j, none⟩) (hb.block g h1)).trans (h2 j x hx)⟩
/-- How many bytes they have. -/
def tot (L : List ByteArray) : Nat := (L.map (·.size)).sum
theorem tot_take {L : List ByteArray} {k : Nat} (h : k < L.length) : tot (L.take (k + 1)) = tot (L.take k) + (L[k]).size := by
  unfold tot
  rw [List.take_add_one, List.getElem?_eq_getElem h, List.map_append, List.sum_append]
  simp
theorem tot_le (L : List ByteArray) (k : Nat) : tot (L.take k) ≤ tot L := by
  conv => rhs; rw [← List.take_append_drop k L]
  unfold tot
  rw [List.map_append, List.sum_append]
  omega
theorem mem_tot : ∀ {L : List ByteArray} {x : ByteArray}, x ∈ L → x.size ≤ tot L
  | y :: L, x, h => by
    have e : tot (y :: L) = y.size + tot L := by simp [tot]
    rcases List.mem_cons.1 h with rfl | h
    · omega
    · have := mem_tot h
      omega
/-- One behind the other. -/
def glue (L : List ByteArray) : ByteArray := ⟨(Lib.join (L.map (·.data.toList)) []).toArray⟩
theorem join_nil : ∀ l : List (List UInt8), Lib.join l [] = l.flatten
  | [] => rfl
  | x :: r => by
    rw [Lib.join_cons]
    unfold Lib.joinTail
    simp
theorem glue_list (L : List ByteArray) : (glue L).data.toList = (L.map (·.data.toList)).flatten := by
  unfold glue
  rw [join_nil]
theorem glue_size (L : List ByteArray) : (glue L).size = tot L := by
  have h : (glue L).size = (glue L).data.toList.length := by simp
  rw [h, glue_list]
  unfold tot
  rw [List.length_flatten, List.map_map]
  congr 1

theorem glue_calls (a : Option Addr) (cap : Nat) (L : List ByteArray) (w : World) (hr : TxRow w a L) (hl : L.length ≤ 1000000) (hc : L.length ≤ cap) (ht : tot L ≤ 140737488355328) :
    Calls Tryd.prog 61 #[.slice a L.length cap, .string ⟨#[]⟩] w fun e w' => e = .returned (.string (glue L)) ∧ Below w.heap.size w w' := by
  rcases Nat.eq_zero_or_pos L.length with h0 | h0
  · have hl0 : L = [] := List.length_eq_zero_iff.1 h0
    subst hl0
    exact (ShelfJ.strings_Join_none a cap ⟨#[]⟩ w).mono fun e w' ⟨h1, h2⟩ => ⟨h1, by rw [h2]; exact Below.refl _ _⟩
  · rcases hr with h | ⟨g, o, rfl, h3, h4⟩
    · omega
    · exact ShelfJ.strings_Join g o cap L ⟨#[]⟩ w h4 h3 (by omega) hc (by
        have h5 := glue_size L
        have h6 : (glue L).size = (glue L).data.toList.length := by simp
        have h7 : (glue L).data.toList = Lib.join (L.map (·.data.toList)) [] := rfl
        rw [h7] at h6
        show (Lib.join (L.map (·.data.toList)) []).length ≤ _
        omega)

set_option maxHeartbeats 2000000 in
set_option maxRecDepth 100000 in
theorem Parts_bad (mb : Nat) (most why : Int) (a : Option Addr) (cap : Nat) (L : List ByteArray) (w : World) (hr : TxRow w a L) (hl : L.length ≤ 1000000) (ht : tot L ≤ 1048576) (hw : Wrong (some ⟨mb, 0, none⟩) most (tot L) why) (h0 : why ≠ 0) :
    Calls Tryd.prog 34 #[.pointer (some ⟨mb, 0, none⟩), .int .i64 most, .slice a L.length cap] w fun e w' => e = .returned (.tuple #[.slice none 0 0, .int .i64 0, .int .i64 why]) ∧ Below w.heap.size w w' := by
  have HR := Lib.hid hr
  have HW := Lib.hid hw
  have HXS := Lib.hid (show ∀ x ∈ L, x.size ≤ 2000000 from fun x hx => by
    have := mem_tot hx
    omega)
  have HLE := Lib.hid (fun k => Nat.le_trans (tot_le L k) ht)
  have h0' : (why != 0) = true := by simpa using h0
  clear hr hw h0
  go_enter Tryd.func34, Tryd.ntmps34
  go_wp2_with fail
  go_loopg [9, 15] L.length (fun g s9 s15 wr => ∃ k : Nat, k ≤ L.length ∧ g = L.length - k ∧ s9 = .int .i64 (tot (L.take k)) ∧ s15 = .int .i64 k ∧ Below w.heap.size w wr)
  case atStart => exact ⟨0, Nat.zero_le _, by omega, rfl, rfl, Below.refl _ _⟩
  case round =>
    obtain ⟨k, hk, hg, rfl, rfl, hbw⟩ := hrel
    have HG := Lib.hid hg
    have HBW := Lib.hid hbw
    clear hg hbw
    by_cases hlt : k < L.length
    · obtain ⟨g, o, rfl, hgl, hc⟩ : ∃ g o, a = some ⟨g, o, none⟩ ∧ g < wr.heap.size ∧ ∀ (j : Nat) x, L[j]? = some x → wr.cell? ⟨g, o + j, none⟩ = some (.string x) := (HR.out.below HBW.out).resolve_left (by omega)
      obtain ⟨x, hx⟩ : ∃ x, L[k] = x := ⟨_, rfl⟩
      have c0 := hc k x (by rw [← hx]; exact List.getElem?_eq_getElem hlt)
      have ht1 := tot_take hlt
      have ht2 := tot_le L (k + 1)
      have hxs : x.size ≤ 2000000 := HXS.out x (by rw [← hx]; exact List.getElem_mem hlt)
      rw [hx] at ht1
      have i1 : (k : Int) < L.length := by omega
      have i2 : (0 : Int) ≤ k := by omega
      have hle := HLE.out k
      have e1 : IntKind.i64.wrap ((tot (L.take k) : Int) + x.size) = ((tot (L.take (k + 1)) : Nat) : Int) := by rw [i64w _ (by omega) (by omega)]; omega
      have e2 : IntKind.i64.wrap ((k : Int) + 1) = ((k + 1 : Nat) : Int) := by rw [i64w _ (by omega) (by omega)]; omega
      have e3 : ¬ ((1048576 : Int) < tot (L.take (k + 1))) := by omega
      obtain ⟨t0, ht0⟩ : ∃ t, tot (L.take k) = t := ⟨_, rfl⟩
      obtain ⟨t3, ht3⟩ : ∃ t, tot (L.take (k + 1)) = t := ⟨_, rfl⟩
      rw [ht0] at e1 ⊢
      rw [ht3] at e1 e3
      have HT3 := Lib.hid ht3
      clear hc hx ht0 ht3 ht1 ht2
      go_wp2_with fail
      go_roundg (L.length - (k + 1))
      case measure => have := HG.out; omega
      case rel => exact ⟨k + 1, by omega, rfl, by rw [HT3.out], by go_num, HBW.out⟩
    · have hkn : k = L.length := by omega
      subst hkn
      rw [List.take_length]
      have hi : ¬ ((L.length : Int) < L.length) := by omega
      go_wp2_with fail
      refine (HW.out wr).mono ?_
      rintro e W2 ⟨rfl, rfl⟩
      go_wp2_with fail
      refine bodyPost_ret (v := .tuple #[.slice none 0 0, .int .i64 0, .int .i64 why]) (by simp [results, Tryd.results34, go_sem, *]) rfl (⟨rfl, HBW.out⟩)

set_option maxHeartbeats 2000000 in
set_option maxRecDepth 100000 in
theorem Parts_calls (D : Dt) (mb most : Nat) (a : Option Addr) (cap : Nat) (L : List ByteArray) (w : World) (h : Mod w mb D) (hT : Tabs w) (h1 : 1 ≤ most) (h2 : most ≤ 65536) (hr : TxRow w a L) (hl : L.length ≤ 1000000) (hc : L.length ≤ cap) (ht : tot L ≤ 1048576) :
    Calls Tryd.prog 34 #[.pointer (some ⟨mb, 0, none⟩), .int .i64 most, .slice a L.length cap] w (Encoded w (encode D most (glue L).data.toList)) := by
  have HR := Lib.hid hr
  have HM := Lib.hid h
  have HTT := Lib.hid hT
  have HXS := Lib.hid (show ∀ x ∈ L, x.size ≤ 2000000 from fun x hx => by
    have := mem_tot hx
    omega)
  have HLE := Lib.hid (fun k => Nat.le_trans (tot_le L k) ht)
  clear hr h hT
  go_enter Tryd.func34, Tryd.ntmps34
  go_wp2_with fail
  go_loopg [9, 15] L.length (fun g s9 s15 wr => ∃ k : Nat, k ≤ L.length ∧ g = L.length - k ∧ s9 = .int .i64 (tot (L.take k)) ∧ s15 = .int .i64 k ∧ Below w.heap.size w wr)
  case atStart => exact ⟨0, Nat.zero_le _, by omega, rfl, rfl, Below.refl _ _⟩
  case round =>
    obtain ⟨k, hk, hg, rfl, rfl, hbw⟩ := hrel
    have HG := Lib.hid hg
    have HBW := Lib.hid hbw
    clear hg hbw
    by_cases hlt : k < L.length
    · obtain ⟨g, o, rfl, hgl, hc⟩ : ∃ g o, a = some ⟨g, o, none⟩ ∧ g < wr.heap.size ∧ ∀ (j : Nat) x, L[j]? = some x → wr.cell? ⟨g, o + j, none⟩ = some (.string x) := (HR.out.below HBW.out).resolve_left (by omega)
      obtain ⟨x, hx⟩ : ∃ x, L[k] = x := ⟨_, rfl⟩
      have c0 := hc k x (by rw [← hx]; exact List.getElem?_eq_getElem hlt)
      have ht1 := tot_take hlt
      have ht2 := tot_le L (k + 1)
      have hxs : x.size ≤ 2000000 := HXS.out x (by rw [← hx]; exact List.getElem_mem hlt)
      rw [hx] at ht1
      have i1 : (k : Int) < L.length := by omega
      have i2 : (0 : Int) ≤ k := by omega
      have hle := HLE.out k
      have e1 : IntKind.i64.wrap ((tot (L.take k) : Int) + x.size) = ((tot (L.take (k + 1)) : Nat) : Int) := by rw [i64w _ (by omega) (by omega)]; omega
      have e2 : IntKind.i64.wrap ((k : Int) + 1) = ((k + 1 : Nat) : Int) := by rw [i64w _ (by omega) (by omega)]; omega
      have e3 : ¬ ((1048576 : Int) < tot (L.take (k + 1))) := by omega
      obtain ⟨t0, ht0⟩ : ∃ t, tot (L.take k) = t := ⟨_, rfl⟩
      obtain ⟨t3, ht3⟩ : ∃ t, tot (L.take (k + 1)) = t := ⟨_, rfl⟩
      rw [ht0] at e1 ⊢
      rw [ht3] at e1 e3
      have HT3 := Lib.hid ht3
      clear hc hx ht0 ht3 ht1 ht2
      go_wp2_with fail
      go_roundg (L.length - (k + 1))
      case measure => have := HG.out; omega
      case rel => exact ⟨k + 1, by omega, rfl, by rw [HT3.out], by go_num, HBW.out⟩
    · have hkn : k = L.length := by omega
      subst hkn
      rw [List.take_length]
      have hi : ¬ ((L.length : Int) < L.length) := by omega
      go_wp2_with fail
      refine (wrong_ok mb most (tot L) wr (by omega) (by omega) (by omega)).mono ?_
      rintro e W2 ⟨rfl, rfl⟩
      go_wp2_with fail
      refine (glue_calls a cap L wr (HR.out.below HBW.out) hl hc (by omega)).mono ?_
      rintro e W3 ⟨rfl, hb3⟩
      have HB := Lib.hid (chain HBW.out hb3)
      clear hb3
      go_wp2_with fail
      refine (Encode_calls D mb most (glue L) W3 (HM.out.below HB.out) (HTT.out.below HB.out) h1 h2 (by rw [glue_size]; exact ht)).mono ?_
      rintro e W4 ⟨v, rfl, hv, hb4⟩
      have HQ := Lib.hid (show Encoded w (encode D most (glue L).data.toList) _ W4 from ⟨v, rfl, Seg.Seg.rebase hv (fun b hb => by have := (Seg.Seg.lt hv b hb).1; have := HB.out.size; omega), chain HB.out hb4⟩)
      clear hv hb4
      go_wp2_with fail
      refine bodyPost_ret (v := .tuple #[v, .int .i64 (stOf (encode D most (glue L).data.toList).2), .int .i64 0]) (by simp [results, Tryd.results34, go_sem, *]) rfl (HQ.out)
end Go.Proofs.YtkjkgpdfhmoenaaDoor.EncGo
