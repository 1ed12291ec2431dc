/-
  tesseralaw18.known, and a model of spans alone.
-/
import Derived.Test.YtendkmldecoogaaDoorDecodeT
namespace Go.Proofs.YtendkmldecoogaaDoor.DecodeK
open Go Go.RowKit Go.Proofs.YtendkmldecoogaaDoor.Kit Go.Proofs.YtendkmldecoogaaDoor.Dt Go.Proofs.YtendkmldecoogaaDoor.MoNew Go.Proofs.YtendkmldecoogaaDoor.Good Go.Proofs.YtendkmldecoogaaDoor.It Go.Proofs.YtendkmldecoogaaDoor.ItGo Go.Proofs.YtendkmldecoogaaDoor.UtfLaw Go.Proofs.YtendkmldecoogaaDoor.UtfGo Go.Proofs.YtendkmldecoogaaDoor.Decode Go.Proofs.YtendkmldecoogaaDoor.DecodeT
attribute [local irreducible] wpQuiet

def BD : Dt := ⟨0, fun _ => ByteArray.empty, 0, fun _ => 0, fun _ => 0, fun _ => 0, 0, fun _ => 0, fun _ => 0, 0, fun _ => 0, fun _ => 0, 1, fun _ => 32, fun _ => 32⟩
theorem chk_BD : chk BD = (0, 0, 0) := by decide +kernel

/-- A cell that is written with what it has. -/
theorem setCell_same {w : World} {b off : Nat} {v : Value} {vs : Array Value} {t : TypeId} {fr : Nat × Nat} (h : w.heap[b]? = some (.cells vs t fr)) (hv : vs[off]? = some v) : w.setCell ⟨b, off, none⟩ v = w := by
  obtain ⟨hlt, hat⟩ := Array.getElem?_eq_some_iff.1 h
  have : ∀ f : Obj → Obj, f (.cells vs t fr) = .cells vs t fr → w.heap.modify b f = w.heap := fun f hf => by
    apply Array.ext_getElem?
    intro i
    rw [Array.getElem?_modify]
    split
    · rename_i hi
      subst hi
      rw [h]
      simp [hf]
    · rfl
  unfold World.setCell
  rw [this]
  simp only [Option.isSome_none, Bool.false_eq_true, if_false]
  congr 1
  obtain ⟨h1, h2⟩ := Array.getElem?_eq_some_iff.1 hv
  rw [← h2]
  apply Array.ext_getElem?
  intro i
  rw [Array.getElem?_setIfInBounds]
  split
  · rename_i hi
    subst hi
    simp [h1]
  · rfl

set_option maxRecDepth 100000 in
theorem Bare_calls (w : World) (o : Obj) (ho : o = .cells #[.int .i32 32, .int .i32 32] 84) (sb : Nat) (hsb : w.heap.size = sb) :
    Calls Tryd.prog 40 #[.slice none 0 0, .slice none 0 0, .slice (some ⟨sb, 0, none⟩) 1 1] (w.alloc o) fun e w' => ∃ mb, e = .returned (.tuple #[.pointer (some ⟨mb, 0, none⟩), .agg #[.int .i64 0, .int .i64 0, .int .i64 0]]) ∧ Mod w' mb BD ∧ Below w.heap.size w w' := by
  subst ho hsb
  have hb0 : Below w.heap.size w (w.alloc (.cells #[.int .i32 32, .int .i32 32] 84)) := (Below.refl _ _).alloc (Nat.le_refl _) _
  have hs : (w.alloc (.cells #[.int .i32 32, .int .i32 32] 84)).heap[w.heap.size]? = some (.cells #[.int .i32 32, .int .i32 32] 84) := alloc_new rfl
  obtain ⟨sb, hsb⟩ : ∃ z, w.heap.size = z := ⟨_, rfl⟩
  rw [hsb] at hs ⊢
  generalize w.alloc (.cells #[.int .i32 32, .int .i32 32] 84) = W0 at hb0 hs ⊢
  have HS := Lib.hid hs
  have HB0 := Lib.hid hb0
  have HZ := Lib.hid hsb
  clear hs hb0 hsb
  obtain ⟨W1, hW1⟩ : ∃ Xz, W0.alloc (.cells #[.int .i64 0, .int .i64 0, .int .i64 0] 80) = Xz := ⟨_, rfl⟩
  obtain ⟨rb, hrb⟩ : ∃ xz, W0.heap.size = xz := ⟨_, rfl⟩
  have hb1 : Below W0.heap.size W0 W1 := by rw [← hW1]; exact (Below.refl _ _).alloc (Nat.le_refl _) _
  have HR := Lib.hid (by rw [← hW1, ← hrb]; exact alloc_new rfl : W1.heap[rb]? = some (.cells #[.int .i64 0, .int .i64 0, .int .i64 0] 80 (0, 0)))
  have EW1 := Lib.hid hW1
  have Erb := Lib.hid hrb
  clear hW1 hrb
  have HB := Lib.hid (chain HB0.out hb1)
  have HA : Hid (At W1 BD ⟨none, 0, none, 0, none, 0, none, 0, some ⟨sb, 0, none⟩, 1⟩) := Lib.hid (by
    have hs1 : W1.heap[sb]? = some (.cells #[.int .i32 32, .int .i32 32] 84) := by rw [hb1.block sb (lt_of_heap HS.out)]; exact HS.out
    refine ⟨.inl rfl, .inl rfl, .inl rfl, .inl rfl, .inr ⟨_, 0, rfl, lt_of_heap hs1, fun i hi => ?_⟩, by decide, by decide, by decide, by decide, by decide, Nat.le_refl _, Nat.le_refl _, Nat.le_refl _, Nat.le_refl _, Nat.le_refl _, fun i hi => absurd hi (Nat.not_lt_zero i), fun i hi => absurd hi (Nat.not_lt_zero i)⟩
    have hi1 : i < 1 := hi
    match i, hi1 with
    | 0, _ => exact ⟨cell_at hs1 0, cell_at hs1 1⟩)
  have HC := Lib.hid (New_calls BD _ W1 HA.out)
  clear hb1
  go_enter Tryd.func40, Tryd.ntmps40
  go_wp2_with fail
  rw [EW1.out, Erb.out]
  refine HC.out.mono ?_
  rintro e W2 (⟨h, _⟩ | ⟨_, mb, rfl, hm, _, hb⟩)
  · exact absurd (congrArg (·.1) chk_BD) h
  have HM := Lib.hid hm
  have HR := Lib.hid ((hb.block _ (lt_of_heap HR.out)).trans HR.out)
  have HB2 := Lib.hid (chain HB.out hb)
  clear hm hb
  have r0 := cell_at HR.out 0
  have r1 := cell_at HR.out 1
  have r2 := cell_at HR.out 2
  have rf := free_all HR.out
  have rz := lt_of_heap HR.out
  simp only [List.getElem?_toArray, List.getElem?_cons_zero, List.getElem?_cons_succ] at r0 r1 r2
  go_wp2_with fail
  rw [setCell_same (off := 0) (v := .int .i64 0) HR.out rfl, setCell_same (off := 1) (v := .int .i64 0) HR.out rfl, setCell_same (off := 2) (v := .int .i64 0) HR.out rfl]
  refine bodyPost_ret (v := .tuple #[.pointer (some ⟨mb, 0, none⟩), .agg #[.int .i64 0, .int .i64 0, .int .i64 0]]) (by simp [results, Tryd.results40, go_sem, r0, r1, r2]) rfl ⟨mb, rfl, HM.out, HZ.out ▸ HB2.out⟩

theorem hi_txt : txt BD (fun i => [104, 105, 256, 33].getD i 0) (upto BD (fun i => [104, 105, 256, 33].getD i 0) 4) = ⟨#[104, 105]⟩ ∧ upto BD (fun i => [104, 105, 256, 33].getD i 0) 4 = 2 := by decide +kernel
theorem bad_txt : (rep (txt BD (fun i => [226, 130, 97].getD i 0) (upto BD (fun i => [226, 130, 97].getD i 0) 3)).data.toList).toArray = #[239, 191, 189, 97] ∧ upto BD (fun i => [226, 130, 97].getD i 0) 3 = 3 := by decide +kernel

/-- A list of numbers that has just been laid. -/
theorem row_new {w : World} {o : Obj} {l : List Int} (ho : o = .cells (l.map (Value.int .i64)).toArray 3) : SameInt.Row (w.alloc o) (some ⟨w.heap.size, 0, none⟩) l.length fun i => l.getD i 0 := by
  subst ho
  have h : (w.alloc (.cells (l.map (Value.int .i64)).toArray 3)).heap[w.heap.size]? = some (.cells (l.map (Value.int .i64)).toArray 3) := alloc_new rfl
  refine .inr ⟨_, 0, rfl, lt_of_heap h, fun i hi => ?_⟩
  rw [cell_at h]
  simp [List.getD, hi]

theorem len_ok {l : List Int} (h : l.all (fun x => decide (-1000 ≤ x ∧ x ≤ 1000)) = true) (i : Nat) : -9223372036854775808 ≤ l.getD i 0 ∧ l.getD i 0 ≤ 9223372036854775807 := by
  by_cases hi : i < l.length
  · have := of_decide_eq_true (List.all_eq_true.1 h (l.getD i 0) (by rw [List.getD_eq_getElem?_getD, List.getElem?_eq_getElem hi, Option.getD_some]; exact List.getElem_mem hi))
    omega
  · rw [List.getD_eq_getElem?_getD, List.getElem?_eq_none (Nat.le_of_not_lt hi), Option.getD_none]
    omega

theorem bytes_new {D : Dt} {W : World} {mb : Nat} (hM : Mod W mb D) (l : List Int) (hl : l.length ≤ 1000000) (h : l.all (fun x => decide (-1000 ≤ x ∧ x ≤ 1000)) = true) (n : Nat) (hn : n = l.length) (o : Obj) (ho : o = .cells (l.map (Value.int .i64)).toArray 3) (s : ByteArray) (k : Int) (hs : txt D (fun i => l.getD i 0) (upto D (fun i => l.getD i 0) l.length) = s) (hk : (upto D (fun i => l.getD i 0) l.length : Int) = k) (b0 : Nat) (hb0 : W.heap.size = b0) :
    Calls Tryd.prog 35 #[.pointer (some ⟨mb, 0, none⟩), .slice (some ⟨b0, 0, none⟩) n n] (W.alloc o) fun e w' => e = .returned (.tuple #[.string s, .int .i64 k]) ∧ Below W.heap.size W w' := by
  subst hn hs hk hb0
  have hb : Below W.heap.size W (W.alloc o) := (Below.refl _ _).alloc (Nat.le_refl _) _
  exact (Bytes_calls _ mb D (hM.below hb) _ _ _ _ (row_new ho) hl (fun i _ => len_ok h i)).mono fun _ _ ⟨h1, h2⟩ => ⟨h1, chain hb h2⟩
theorem text_new {D : Dt} {W : World} {mb : Nat} (hM : Mod W mb D) (hT : Tabs W) (l : List Int) (hl : l.length ≤ 1000000) (h : l.all (fun x => decide (-1000 ≤ x ∧ x ≤ 1000)) = true) (n : Nat) (hn : n = l.length) (o : Obj) (ho : o = .cells (l.map (Value.int .i64)).toArray 3) (s : ByteArray) (k : Int) (hs : (rep (txt D (fun i => l.getD i 0) (upto D (fun i => l.getD i 0) l.length)).data.toList).toArray = s.data) (hk : (upto D (fun i => l.getD i 0) l.length : Int) = k) (b0 : Nat) (hb0 : W.heap.size = b0) :
    Calls Tryd.prog 41 #[.pointer (some ⟨mb, 0, none⟩), .slice (some ⟨b0, 0, none⟩) n n] (W.alloc o) fun e w' => e = .returned (.tuple #[.string s, .int .i64 k]) ∧ Below W.heap.size W w' := by
  have hs' : (⟨s.data⟩ : ByteArray) = s := rfl
  rw [← hs] at hs'
  subst hn hk hb0
  rw [← hs']
  have hb : Below W.heap.size W (W.alloc o) := (Below.refl _ _).alloc (Nat.le_refl _) _
  exact (Text_calls _ mb D (hM.below hb) (hT.below hb) _ _ _ _ (row_new ho) hl (fun i _ => len_ok h i)).mono fun _ _ ⟨h1, h2⟩ => ⟨h1, chain hb h2⟩

set_option maxRecDepth 100000 in
theorem known_calls (w : World) (hT : Tabs w) : Calls Tryd.prog 34 #[] w fun e w' => e = .returned (.bool true) ∧ Below w.heap.size w w' := by
  have HT := Lib.hid hT
  clear hT
  go_enter Tryd.func34, Tryd.ntmps34
  go_wp2_with fail
  refine (Bare_calls w _ rfl _ rfl).mono ?_
  rintro e W1 ⟨mb, rfl, hm, hb⟩
  have HM := Lib.hid hm
  have HB := Lib.hid hb
  clear hm hb
  go_wp2_with fail
  have hb1 : Below W1.heap.size W1 (W1.alloc (.cells #[.int .i64 0, .int .i64 0, .int .i64 0] 80)) := (Below.refl _ _).alloc (Nat.le_refl _) _
  refine (bytes_new (HM.out.below hb1) [104, 105, 256, 33] (by decide) (by decide) 4 rfl _ rfl ⟨#[104, 105]⟩ 2 hi_txt.1 (by rw [show ([104, 105, 256, 33] : List Int).length = 4 from rfl, hi_txt.2]; rfl) _ (by simp only [World.size_alloc])).mono ?_
  rintro e W2 ⟨rfl, hb⟩
  have hb12 := chain hb1 hb
  have HM := Lib.hid (HM.out.below hb12)
  have HB := Lib.hid (chain HB.out hb12)
  clear hb hb1 hb12
  go_wp2_with fail
  refine (text_new HM.out (HT.out.below HB.out) [226, 130, 97] (by decide) (by decide) 3 rfl _ rfl ⟨#[239, 191, 189, 97]⟩ 3 bad_txt.1 (by rw [show ([226, 130, 97] : List Int).length = 3 from rfl, bad_txt.2]; rfl) _ rfl).mono ?_
  rintro e W3 ⟨rfl, hb⟩
  have HB := Lib.hid (chain HB.out hb)
  clear hb
  go_wp2_with fail
  go_ret
  exact ⟨rfl, HB.out⟩
end Go.Proofs.YtendkmldecoogaaDoor.DecodeK
