/-
  The walk of the law DecodeNumbers.
-/
import Derived.Test.YtendkmldecoogaaDoorDecodeK
import Derived.Test.YtendkmldecoogaaDoorSameStr
namespace Go.Proofs.YtendkmldecoogaaDoor.decodeNumbers
open Go Go.RowKit Go.Proofs.YtendkmldecoogaaDoor.Kit Go.Proofs.YtendkmldecoogaaDoor.Round Go.Proofs.YtendkmldecoogaaDoor.Seg Go.Proofs.YtendkmldecoogaaDoor.Dt Go.Proofs.YtendkmldecoogaaDoor.MoNew Go.Proofs.YtendkmldecoogaaDoor.Good Go.Proofs.YtendkmldecoogaaDoor.It Go.Proofs.YtendkmldecoogaaDoor.ItGo Go.Proofs.YtendkmldecoogaaDoor.UtfLaw Go.Proofs.YtendkmldecoogaaDoor.UtfGo Go.Proofs.YtendkmldecoogaaDoor.Decode Go.Proofs.YtendkmldecoogaaDoor.DecodeT Go.Proofs.YtendkmldecoogaaDoor.DecodeK
attribute [local irreducible] wpQuiet

theorem Words_none (v : Value) (w : World) : Calls Tryd.prog 37 #[.pointer none, v] w fun e w' => e = .returned (.slice none 0 0) ∧ w' = w := by
  go_enter Tryd.func37, Tryd.ntmps37
  go_wp2_with fail
  go_ret
  exact ⟨rfl, rfl⟩

theorem Bytes_none (v : Value) (w : World) : Calls Tryd.prog 35 #[.pointer none, v] w fun e w' => e = .returned (.tuple #[.string ⟨#[]⟩, .int .i64 0]) ∧ w' = w := by
  go_enter Tryd.func35, Tryd.ntmps35
  go_wp2_with fail
  refine (Words_none v w).mono ?_
  rintro e w' ⟨rfl, rfl⟩
  go_wp2_with fail
  refine (ShelfJ.strings_Join_none none 0 ⟨#[]⟩ _).mono ?_
  rintro e w' ⟨rfl, rfl⟩
  go_wp2_with fail
  go_ret2
  exact ⟨rfl, rfl⟩

set_option maxRecDepth 100000 in
theorem Text_none (v : Value) (w : World) : Calls Tryd.prog 41 #[.pointer none, v] w fun e w' => e = .returned (.tuple #[.string ⟨#[]⟩, .int .i64 0]) ∧ Below w.heap.size w w' := by
  go_enter Tryd.func41, Tryd.ntmps41
  go_wp2_with fail
  refine (Bytes_none v w).mono ?_
  rintro e w' ⟨rfl, rfl⟩
  go_wp2_with fail
  obtain ⟨ib, hib⟩ : ∃ z, w'.heap.size = z := ⟨_, rfl⟩
  have hit : (w'.iter ⟨#[]⟩ 0).heap[ib]? = some (.stringIter ⟨#[]⟩ 0) := by rw [← hib]; exact World.iter_heap w' ⟨#[]⟩ 0
  have hb2 : Below w'.heap.size w' (w'.iter ⟨#[]⟩ 0) := (Below.refl _ _).alloc (Nat.le_refl _) _
  rw [hib]
  generalize w'.iter ⟨#[]⟩ 0 = W2 at hit hb2 ⊢
  have HIT := Lib.hid hit
  have HB := Lib.hid hb2
  clear hit hb2 hib
  go_loopg [] 0 (fun g wr => wr = W2)
  case atStart => rfl
  case round =>
    subst hrel
    have hnx := fun ty => Lib.run_next_end_at (P := Tryd.prog) wr ib ⟨#[]⟩ 0 ty HIT.out (by decide)
    go_wp2_with fail
    go_ret2
    exact ⟨rfl, HB.out⟩

theorem Ready_none (v : Value) (w : World) (hT : Tabs w) : Calls Tryd.prog 42 #[.pointer none, v] w fun e w' => e = .returned (.int .i64 0) ∧ Below w.heap.size w w' := by
  go_enter Tryd.func42, Tryd.ntmps42
  go_wp2_with fail
  refine (Bytes_none v w).mono ?_
  rintro e w' ⟨rfl, rfl⟩
  go_wp2_with fail
  refine (Tail_calls ⟨#[]⟩ _ hT (by decide)).mono ?_
  rintro e w2 ⟨rfl, hb⟩
  have HB := Lib.hid hb
  rw [show tailN (⟨#[]⟩ : ByteArray).data.toList = 0 by decide +kernel]
  go_wp2_with fail
  go_ret
  exact ⟨rfl, HB.out⟩

/-- The texts that a list of numbers has. -/
theorem words_new {D : Dt} {W : World} {mb : Nat} (hM : Mod W mb D) (l : List Int) (hl : l.length ≤ 1000000) (h : l.all (fun x => decide (-1000 ≤ x ∧ x ≤ 1000)) = true) (n : Nat) (hn : n = l.length) (o : Obj) (ho : o = .cells (l.map (Value.int .i64)).toArray 3) (T : List ByteArray) (hT : wl D (fun i => l.getD i 0) (upto D (fun i => l.getD i 0) l.length) = T) (b0 : Nat) (hb0 : W.heap.size = b0) :
    Calls Tryd.prog 37 #[.pointer (some ⟨mb, 0, none⟩), .slice (some ⟨b0, 0, none⟩) n n] (W.alloc o) fun e w' => ∃ a c, e = .returned (.slice a T.length c) ∧ SameStr.Row w' a T.length (fun i => T.getD i ByteArray.empty) ∧ Below W.heap.size W w' := by
  subst hn hb0 hT
  have hb : Below W.heap.size W (W.alloc o) := (Below.refl _ _).alloc (Nat.le_refl _) _
  refine (Words_calls _ mb D (hM.below hb) _ _ _ _ (row_new ho) hl (fun i _ => len_ok h i)).mono ?_
  rintro e w' ⟨v, rfl, h1, h2⟩
  obtain ⟨a, c, rfl, _, h4⟩ := h1.cells
  refine ⟨a, c, rfl, ?_, chain hb h2⟩
  generalize wl D (fun i => l.getD i 0) (upto D (fun i => l.getD i 0) l.length) = T at h4 ⊢
  rcases Nat.eq_zero_or_pos T.length with h0 | h0
  · exact .inl h0
  · obtain ⟨g, o, rfl, _, h6, h7⟩ := h4 h0
    exact .inr ⟨g, o, rfl, h6, fun i hi => h7 i _ (by show T[i]? = some (T.getD i ByteArray.empty); rw [List.getD_eq_getElem?_getD, List.getElem?_eq_getElem hi, Option.getD_some])⟩
theorem strs_new {w : World} {o : Obj} {T : List ByteArray} (ho : o = .cells (T.map Value.string).toArray 9) : SameStr.Row (w.alloc o) (some ⟨w.heap.size, 0, none⟩) T.length fun i => T.getD i ByteArray.empty := by
  subst ho
  have h : (w.alloc (.cells (T.map Value.string).toArray 9)).heap[w.heap.size]? = some (.cells (T.map Value.string).toArray 9) := alloc_new rfl
  refine .inr ⟨_, 0, rfl, lt_of_heap h, fun i hi => ?_⟩
  rw [cell_at h]
  simp [List.getD, hi]

theorem ready_new {D : Dt} {W : World} {mb : Nat} (hM : Mod W mb D) (hT : Tabs W) (l : List Int) (hl : l.length ≤ 1000000) (h : l.all (fun x => decide (-1000 ≤ x ∧ x ≤ 1000)) = true) (n : Nat) (hn : n = l.length) (o : Obj) (ho : o = .cells (l.map (Value.int .i64)).toArray 3) (k : Int) (hk : ((txt D (fun i => l.getD i 0) (upto D (fun i => l.getD i 0) l.length)).size : Int) - tailN (txt D (fun i => l.getD i 0) (upto D (fun i => l.getD i 0) l.length)).data.toList = k) (b0 : Nat) (hb0 : W.heap.size = b0) :
    Calls Tryd.prog 42 #[.pointer (some ⟨mb, 0, none⟩), .slice (some ⟨b0, 0, none⟩) n n] (W.alloc o) fun e w' => e = .returned (.int .i64 k) ∧ Below W.heap.size W w' := by
  subst hn hk hb0
  have hb : Below W.heap.size W (W.alloc o) := (Below.refl _ _).alloc (Nat.le_refl _) _
  exact (Ready_calls _ mb D (hM.below hb) (hT.below hb) _ _ _ _ (row_new ho) hl (fun i _ => len_ok h i)).mono fun _ _ ⟨h1, h2⟩ => ⟨h1, chain hb h2⟩

theorem neg_txt : txt BD (fun i => [-1].getD i 0) (upto BD (fun i => [-1].getD i 0) 1) = ⟨#[]⟩ ∧ upto BD (fun i => [-1].getD i 0) 1 = 0 := by decide +kernel
theorem rdy : (((txt BD (fun i => [97, 226].getD i 0) (upto BD (fun i => [97, 226].getD i 0) 2)).size : Int) - tailN (txt BD (fun i => [97, 226].getD i 0) (upto BD (fun i => [97, 226].getD i 0) 2)).data.toList) = 1 := by decide +kernel
theorem wds : wl BD (fun i => [97, 98, 999, 97].getD i 0) (upto BD (fun i => [97, 98, 999, 97].getD i 0) 4) = [⟨#[97]⟩, ⟨#[98]⟩] := by decide +kernel

set_option maxHeartbeats 2000000 in
set_option maxRecDepth 100000 in
theorem walk (w : World) (hT : Tabs w) : Calls Tryd.prog 10 #[] w fun e w' => e = .returned (.bool true) ∧ Below w.heap.size w w' := by
  have HT := Lib.hid hT
  clear hT
  go_enter Tryd.func10, Tryd.ntmps10
  go_wp2_with fail
  refine (Bare_calls w _ rfl _ rfl).mono ?_
  rintro e W1 ⟨mb, rfl, hm, hb⟩
  have HM := Lib.hid hm
  have HB := Lib.hid hb
  clear hm hb
  go_wp2_with fail
  have hb1 : Below W1.heap.size W1 ((W1.alloc (.cells #[.int .i64 0, .int .i64 0, .int .i64 0] 80)).alloc (.cells #[.int .i64 97] 3)) := ((Below.refl _ _).alloc (Nat.le_refl _) _).alloc (by simp only [World.size_alloc]; omega) _
  generalize (W1.alloc (.cells #[.int .i64 0, .int .i64 0, .int .i64 0] 80)).alloc (.cells #[.int .i64 97] 3) = W2 at hb1 ⊢
  have HM := Lib.hid (HM.out.below hb1)
  have HB := Lib.hid (chain HB.out hb1)
  clear hb1
  refine (Bytes_none _ W2).mono ?_
  rintro e w' ⟨rfl, hw'⟩
  subst w'
  go_wp2_with fail
  have hb1 : Below W2.heap.size W2 (W2.alloc (.cells #[.int .i64 97] 3)) := (Below.refl _ _).alloc (Nat.le_refl _) _
  refine (Text_none _ _).mono ?_
  rintro e W3 ⟨rfl, hb⟩
  have hb13 := chain hb1 hb
  have HM := Lib.hid (HM.out.below hb13)
  have HB := Lib.hid (chain HB.out hb13)
  clear hb hb1 hb13
  go_wp2_with fail
  refine (bytes_new HM.out [-1] (by decide) (by decide) 1 rfl _ rfl ⟨#[]⟩ 0 neg_txt.1 (by rw [show ([-1] : List Int).length = 1 from rfl, neg_txt.2]; rfl) _ rfl).mono ?_
  rintro e W4 ⟨rfl, hb⟩
  have HM := Lib.hid (HM.out.below hb)
  have HB := Lib.hid (chain HB.out hb)
  clear hb
  go_wp2_with fail
  refine (Words_none _ _).mono ?_
  rintro e W5 ⟨rfl, hw'⟩
  have hb1 : Below W4.heap.size W4 (W4.alloc (.cells #[.int .i64 97] 3)) := (Below.refl _ _).alloc (Nat.le_refl _) _
  rw [← hw'] at hb1
  have HM := Lib.hid (HM.out.below hb1)
  have HB := Lib.hid (chain HB.out hb1)
  clear hw' hb1
  go_wp2_with fail
  have hb1 : Below W5.heap.size W5 (W5.alloc (.cells #[.int .i64 97] 3)) := (Below.refl _ _).alloc (Nat.le_refl _) _
  refine (Ready_none _ _ (HT.out.below (chain HB.out hb1))).mono ?_
  rintro e W6 ⟨rfl, hb⟩
  have hb13 := chain hb1 hb
  have HM := Lib.hid (HM.out.below hb13)
  have HB := Lib.hid (chain HB.out hb13)
  clear hb hb1 hb13
  go_wp2_with fail
  refine (ready_new HM.out (HT.out.below HB.out) [97, 226] (by decide) (by decide) 2 rfl _ rfl 1 rdy _ rfl).mono ?_
  rintro e W7 ⟨rfl, hb⟩
  have HM := Lib.hid (HM.out.below hb)
  have HB := Lib.hid (chain HB.out hb)
  clear hb
  go_wp2_with fail
  refine (words_new HM.out [97, 98, 999, 97] (by decide) (by decide) 4 rfl _ rfl [⟨#[97]⟩, ⟨#[98]⟩] wds _ rfl).mono ?_
  rintro e W8 ⟨a, c, rfl, hrow, hb⟩
  have HM := Lib.hid (HM.out.below hb)
  have HB := Lib.hid (chain HB.out hb)
  have HROW := Lib.hid hrow
  clear hb hrow
  go_wp2_with fail
  have hb1 : Below W8.heap.size W8 (W8.alloc (.cells #[.string ⟨#[97]⟩, .string ⟨#[98]⟩] 9)) := (Below.refl _ _).alloc (Nat.le_refl _) _
  have hs := strs_new (w := W8) (T := [⟨#[97]⟩, ⟨#[98]⟩]) rfl
  refine (SameStr.Same_calls a _ 2 c 2 _ _ (HROW.out.below hb1) hs (by decide)).mono ?_
  rintro e W9 ⟨rfl, hb⟩
  have HB := Lib.hid (chain HB.out (chain hb1 hb))
  clear hb hb1 hs
  go_wp2_with fail
  refine (known_calls W9 (HT.out.below HB.out)).mono ?_
  rintro e W10 ⟨rfl, hb⟩
  have HB := Lib.hid (chain HB.out hb)
  clear hb
  go_wp2_with fail
  go_ret
  exact ⟨rfl, HB.out⟩
end Go.Proofs.YtendkmldecoogaaDoor.decodeNumbers
