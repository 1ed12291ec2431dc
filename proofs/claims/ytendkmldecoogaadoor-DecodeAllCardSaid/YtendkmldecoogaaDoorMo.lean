/-
  A model as it lies in memory; Size, Word.
-/
import Derived.Test.YtendkmldecoogaaDoorRef5a
import Derived.Test.YtendkmldecoogaaDoorMap
namespace Go.Proofs.YtendkmldecoogaaDoor.Mo
open Go Go.RowKit Go.Proofs.YtendkmldecoogaaDoor.Kit Go.Proofs.YtendkmldecoogaaDoor.SpFns Go.Proofs.YtendkmldecoogaaDoor.Dt Go.Proofs.YtendkmldecoogaaDoor.Ref5a
attribute [local irreducible] wpQuiet

/-- A model's block. -/
def Blk (w : World) (mb : Nat) (D : Dt) (q : Pl) (tp : Value) (mp : Nat) (lg : Int) : Prop :=
  w.heap[mb]? = some (.cells #[.slice q.a0 D.nw q.c0, .slice q.a1 D.nm q.c1, .slice q.a2 D.n0 q.c2, .slice q.a3 D.n1 q.c3, .slice q.a4 D.n2 q.c4, tp, .map (some mp), .int .i64 lg] 131 (0, 0))

set_option maxRecDepth 100000 in
theorem Size_calls (w : World) (mb : Nat) (D : Dt) (q : Pl) (tp : Value) (mp : Nat) (lg : Int) (h : Blk w mb D q tp mp lg) (hn : D.nw ≤ 4096) :
    Calls Tryd.prog 111 #[.pointer (some ⟨mb, 0, none⟩)] w fun x w' => x = .returned (.int .i64 (256 + D.nw)) ∧ w = w' := by
  have c0 := cell_at h 0
  have z := lt_of_heap h
  simp only [List.getElem?_toArray, List.getElem?_cons_zero] at c0
  have hw : IntKind.i64.wrap (256 + (D.nw : Int)) = 256 + D.nw := i64w _ (by omega) (by omega)
  clear h
  go_enter Tryd.func111, Tryd.ntmps111
  go_wp2
  go_ret
  exact ⟨rfl, rfl⟩

set_option maxRecDepth 100000 in
theorem Word_calls (w : World) (mb : Nat) (D : Dt) (q : Pl) (tp : Value) (mp : Nat) (lg : Int) (h : Blk w mb D q tp mp lg) (hA : WRow w q.a0 D.nw D.W) (hn : D.nw ≤ 4096) (id : Int) (hid : -9223372036854775808 ≤ id ∧ id ≤ 9223372036854775807) :
    Calls Tryd.prog 77 #[.pointer (some ⟨mb, 0, none⟩), .int .i64 id] w fun e w' => e = .returned (.tuple #[.string (word D id), .bool (decide (isId D id))]) ∧ Below w.heap.size w w' := by
  have HS := Lib.hid (Size_calls w mb D q tp mp lg h hn)
  have b0 := cell_at h 0
  have z := lt_of_heap h
  simp only [List.getElem?_toArray, List.getElem?_cons_zero] at b0
  have H := Lib.hid hA
  clear h hA
  by_cases hneg : id < 0
  · have HM := Lib.hid (word_none (D := D) (.inl hneg))
    have HI := Lib.hid (decide_eq_false (fun h => by have := h.1; omega) : decide (isId D id) = false)
    go_enter Tryd.func77, Tryd.ntmps77
    go_wp2
    go_ret2
    rw [HM.out, HI.out]
    exact ⟨rfl, Below.refl _ _⟩
  by_cases hbig : 256 + (D.nw : Int) ≤ id
  · have HM := Lib.hid (word_none (D := D) (.inr hbig))
    have HI := Lib.hid (decide_eq_false (fun h => by have := h.2; omega) : decide (isId D id) = false)
    go_enter Tryd.func77, Tryd.ntmps77
    go_wp2_with fail
    refine HS.out.mono ?_
    rintro e w' ⟨rfl, rfl⟩
    go_wp2
    go_ret2
    rw [HM.out, HI.out]
    exact ⟨rfl, Below.refl _ _⟩
  by_cases hs : id < 256
  · have HM := Lib.hid (word_byte (D := D) (by omega : 0 ≤ id) hs)
    have HI := Lib.hid (decide_eq_true ⟨by omega, by omega⟩ : decide (isId D id) = true)
    have hcv := byte_text w id
    have hw : IntKind.u8.wrap id = id := u8w (by omega) hs
    go_enter Tryd.func77, Tryd.ntmps77
    go_wp2_with fail
    refine HS.out.mono ?_
    rintro e w' ⟨rfl, rfl⟩
    go_wp2
    go_ret2
    rw [HM.out, HI.out]
    exact ⟨rfl, (Below.refl _ _).alloc (Nat.le_refl _) _⟩
  · have h0 : 256 ≤ id := by omega
    have h1 : id - 256 < D.nw := by omega
    have HM := Lib.hid (word_list h0 h1)
    have HI := Lib.hid (decide_eq_true ⟨by omega, by omega⟩ : decide (isId D id) = true)
    obtain ⟨k, hk⟩ : ∃ k : Nat, id = 256 + k := ⟨(id - 256).toNat, by omega⟩
    have hkn : k < D.nw := by omega
    have hki : (k : Int) < D.nw := by omega
    obtain ⟨b, off, hpa, hbl, hc⟩ := H.out.at hkn
    have c0 := hc k hkn
    rw [hpa] at b0
    have hwk : (id - 256).toNat = k := by omega
    rw [hwk] at HM
    have hw : IntKind.i64.wrap (id - 256) = k := by rw [i64w _ (by omega) (by omega)]; omega
    clear hc hk hwk hpa h1
    go_enter Tryd.func77, Tryd.ntmps77
    go_wp2_with fail
    refine HS.out.mono ?_
    rintro e w' ⟨rfl, rfl⟩
    go_wp2
    go_ret2
    rw [HM.out, HI.out]
    exact ⟨rfl, Below.refl _ _⟩

def putM (w : World) (b : Nat) (o : Obj) : World := { w with heap := w.heap.setIfInBounds b o }
theorem putM_at {w : World} {b : Nat} (o : Obj) (h : b < w.heap.size) : (putM w b o).heap[b]? = some o := by simp [putM, h]
theorem putM_ne {w : World} {b k : Nat} (o : Obj) (h : k ≠ b) : (putM w b o).heap[k]? = w.heap[k]? := by
  show (w.heap.setIfInBounds b o)[k]? = _
  rw [Array.getElem?_setIfInBounds]
  simp [Ne.symm h]
theorem putM_size (w : World) (b : Nat) (o : Obj) : (putM w b o).heap.size = w.heap.size := by simp [putM]
theorem putM_upd (w : World) (b : Nat) (o : Obj) : Upd (fun i => i = b) w (putM w b o) := ⟨rfl, rfl, rfl, by rw [putM_size]; exact Nat.le_refl _, fun k _ hk => putM_ne o hk⟩
end Go.Proofs.YtendkmldecoogaaDoor.Mo
