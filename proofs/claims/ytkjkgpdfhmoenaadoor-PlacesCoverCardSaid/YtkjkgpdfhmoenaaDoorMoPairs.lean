/-
  A model as it lies in memory; Size, Word. (*Model).words: what is wrong with the words; the longest. (*Model).pairs' inner function: is an id a byte's, or made by a merge ahead? (*Model).pairs: what is wrong with the merges; the map of pairs.
-/
import Derived.Test.YtkjkgpdfhmoenaaDoorDt
import Derived.Test.YtkjkgpdfhmoenaaDoorMap
import Derived.Test.YtkjkgpdfhmoenaaDoorRef5c
import Derived.Laws.MakeOwn
import Derived.Laws.OwnMore
import Derived.Deep.WholeRow
namespace Go.Proofs.YtkjkgpdfhmoenaaDoor.Mo
open Go Go.RowKit Go.Proofs.YtkjkgpdfhmoenaaDoor.Kit Go.Proofs.YtkjkgpdfhmoenaaDoor.SpFns Go.Proofs.YtkjkgpdfhmoenaaDoor.Dt Go.Proofs.YtkjkgpdfhmoenaaDoor.Ref5a
attribute [local irreducible] wpQuiet

/-- A model's block. -/
def Blk (w : World) (mb : Nat) (D : Dt) (q : Pl) (tp : Value) (mp : Nat) (lg : Int) : Prop :=
  w.heap[mb]? = some (.cells #[.slice q.a0 D.nw q.c0, .slice q.a1 D.nm q.c1, .slice q.a2 D.n0 q.c2, .slice q.a3 D.n1 q.c3, .slice q.a4 D.n2 q.c4, tp, .map (some mp), .int .i64 lg] 116 (0, 0))

set_option maxRecDepth 100000 in
theorem Size_calls (w : World) (mb : Nat) (D : Dt) (q : Pl) (tp : Value) (mp : Nat) (lg : Int) (h : Blk w mb D q tp mp lg) (hn : D.nw ≤ 4096) :
    Calls Tryd.prog 55 #[.pointer (some ⟨mb, 0, none⟩)] w fun x w' => x = .returned (.int .i64 (256 + D.nw)) ∧ w = w' := by
  have c0 := cell_at h 0
  have z := lt_of_heap h
  simp only [List.getElem?_toArray, List.getElem?_cons_zero] at c0
  have hw : IntKind.i64.wrap (256 + (D.nw : Int)) = 256 + D.nw := i64w _ (by omega) (by omega)
  clear h
  go_enter Tryd.func55, Tryd.ntmps55
  go_wp2
  go_ret
  exact ⟨rfl, rfl⟩

set_option maxRecDepth 100000 in
theorem Word_calls (w : World) (mb : Nat) (D : Dt) (q : Pl) (tp : Value) (mp : Nat) (lg : Int) (h : Blk w mb D q tp mp lg) (hA : WRow w q.a0 D.nw D.W) (hn : D.nw ≤ 4096) (id : Int) (hid : -9223372036854775808 ≤ id ∧ id ≤ 9223372036854775807) :
    Calls Tryd.prog 22 #[.pointer (some ⟨mb, 0, none⟩), .int .i64 id] w fun e w' => e = .returned (.tuple #[.string (word D id), .bool (decide (isId D id))]) ∧ Below w.heap.size w w' := by
  have HS := Lib.hid (Size_calls w mb D q tp mp lg h hn)
  have b0 := cell_at h 0
  have z := lt_of_heap h
  simp only [List.getElem?_toArray, List.getElem?_cons_zero] at b0
  have H := Lib.hid hA
  clear h hA
  by_cases hneg : id < 0
  · have HM := Lib.hid (word_none (D := D) (.inl hneg))
    have HI := Lib.hid (decide_eq_false (fun h => by have := h.1; omega) : decide (isId D id) = false)
    go_enter Tryd.func22, Tryd.ntmps22
    go_wp2
    go_ret2
    rw [HM.out, HI.out]
    exact ⟨rfl, Below.refl _ _⟩
  by_cases hbig : 256 + (D.nw : Int) ≤ id
  · have HM := Lib.hid (word_none (D := D) (.inr hbig))
    have HI := Lib.hid (decide_eq_false (fun h => by have := h.2; omega) : decide (isId D id) = false)
    go_enter Tryd.func22, Tryd.ntmps22
    go_wp2_with fail
    refine HS.out.mono ?_
    rintro e w' ⟨rfl, rfl⟩
    go_wp2
    go_ret2
    rw [HM.out, HI.out]
    exact ⟨rfl, Below.refl _ _⟩
  by_cases hs : id < 256
  · have HM := Lib.hid (word_byte (D := D) (by omega : 0 ≤ id) hs)
    have HI := Lib.hid (decide_eq_true ⟨by omega, by omega⟩ : decide (isId D id) = true)
    have hcv := byte_text w id
    have hw : IntKind.u8.wrap id = id := u8w (by omega) hs
    go_enter Tryd.func22, Tryd.ntmps22
    go_wp2_with fail
    refine HS.out.mono ?_
    rintro e w' ⟨rfl, rfl⟩
    go_wp2
    go_ret2
    rw [HM.out, HI.out]
    exact ⟨rfl, (Below.refl _ _).alloc (Nat.le_refl _) _⟩
  · have h0 : 256 ≤ id := by omega
    have h1 : id - 256 < D.nw := by omega
    have HM := Lib.hid (word_list h0 h1)
    have HI := Lib.hid (decide_eq_true ⟨by omega, by omega⟩ : decide (isId D id) = true)
    obtain ⟨k, hk⟩ : ∃ k : Nat, id = 256 + k := ⟨(id - 256).toNat, by omega⟩
    have hkn : k < D.nw := by omega
    have hki : (k : Int) < D.nw := by omega
    obtain ⟨b, off, hpa, hbl, hc⟩ := H.out.at hkn
    have c0 := hc k hkn
    rw [hpa] at b0
    have hwk : (id - 256).toNat = k := by omega
    rw [hwk] at HM
    have hw : IntKind.i64.wrap (id - 256) = k := by rw [i64w _ (by omega) (by omega)]; omega
    clear hc hk hwk hpa h1
    go_enter Tryd.func22, Tryd.ntmps22
    go_wp2_with fail
    refine HS.out.mono ?_
    rintro e w' ⟨rfl, rfl⟩
    go_wp2
    go_ret2
    rw [HM.out, HI.out]
    exact ⟨rfl, Below.refl _ _⟩

def putM (w : World) (b : Nat) (o : Obj) : World := { w with heap := w.heap.setIfInBounds b o }
theorem putM_at {w : World} {b : Nat} (o : Obj) (h : b < w.heap.size) : (putM w b o).heap[b]? = some o := by simp [putM, h]
theorem putM_ne {w : World} {b k : Nat} (o : Obj) (h : k ≠ b) : (putM w b o).heap[k]? = w.heap[k]? := by
  show (w.heap.setIfInBounds b o)[k]? = _
  rw [Array.getElem?_setIfInBounds]
  simp [Ne.symm h]
theorem putM_size (w : World) (b : Nat) (o : Obj) : (putM w b o).heap.size = w.heap.size := by simp [putM]
theorem putM_upd (w : World) (b : Nat) (o : Obj) : Upd (fun i => i = b) w (putM w b o) := ⟨rfl, rfl, rfl, by rw [putM_size]; exact Nat.le_refl _, fun k _ hk => putM_ne o hk⟩
end Go.Proofs.YtkjkgpdfhmoenaaDoor.Mo
namespace Go.Proofs.YtkjkgpdfhmoenaaDoor.MoWords
open Go Go.RowKit Go.Proofs.YtkjkgpdfhmoenaaDoor.Kit Go.Proofs.YtkjkgpdfhmoenaaDoor.Maps Go.Proofs.YtkjkgpdfhmoenaaDoor.SpFns Go.Proofs.YtkjkgpdfhmoenaaDoor.Dt Go.Proofs.YtkjkgpdfhmoenaaDoor.Mo
attribute [local irreducible] wpQuiet

/-- The longest of 1 and the first k words. -/
def lg (D : Dt) : Nat → Nat
  | 0 => 1
  | k + 1 => max (lg D k) (D.W k).size

def seen (D : Dt) (k : Nat) : List (ByteArray × Value × Nat) := (List.range k).map fun j => (D.W j, .int .i64 j, j)
theorem seen_succ (D : Dt) (k : Nat) : seen D (k + 1) = seen D k ++ [(D.W k, .int .i64 k, k)] := by simp [seen, List.range_succ]
theorem mem_seen (D : Dt) (k : Nat) (s : ByteArray) : s ∈ (seen D k).map (·.1) ↔ ∃ j, j < k ∧ D.W j = s := by simp [seen]
theorem seen_yes {D : Dt} {k : Nat} {s : ByteArray} (h : ∃ j, j < k ∧ D.W j = s) : ∃ n v, lk s (seen D k) 0 = some (n, v) := by
  cases hl : lk s (seen D k) 0 with
  | none => exact absurd ((mem_seen D k s).2 h) (lk_none.1 hl)
  | some x => exact ⟨x.1, x.2, rfl⟩
theorem seen_no {D : Dt} {k : Nat} {s : ByteArray} (h : ¬ ∃ j, j < k ∧ D.W j = s) : lk s (seen D k) 0 = none := lk_none.2 (fun hm => h ((mem_seen D k s).1 hm))

def Said (D : Dt) (q : Pl) (mb : Nat) (tp : Value) (mp : Nat) (w : World) (x : Ending) (w' : World) : Prop :=
  x = .returned (.tuple #[.int .i64 (fb (badW D) D.nw 0).1, .int .i64 (fb (badW D) D.nw 0).2]) ∧ (∃ l : Int, Blk w' mb D q tp mp l ∧ ((fb (badW D) D.nw 0).2 = 0 → l = lg D D.nw)) ∧ Upd (fun i => i = mb) w w'

/-- Where the loop stands. -/
structure At1 (w wr : World) (D : Dt) (q : Pl) (mb sb k : Nat) (tp : Value) (mp : Nat) : Prop where
  m : Blk wr mb D q tp mp (lg D k)
  s : wr.heap[sb]? = some (.map (ents MapStr.encK (seen D k)) k)
  r : WRow wr q.a0 D.nw D.W
  new : w.heap.size ≤ sb
  u : Upd (fun i => i = mb) w wr

set_option maxHeartbeats 1000000 in
set_option maxRecDepth 100000 in
theorem words_calls (w : World) (mb : Nat) (D : Dt) (q : Pl) (tp : Value) (mp : Nat) (h : Blk w mb D q tp mp 1) (hA : WRow w q.a0 D.nw D.W) (hne : ∀ x, q.a0 = some x → x.block ≠ mb) (hn : D.nw ≤ 4096) :
    Calls Tryd.prog 67 #[.pointer (some ⟨mb, 0, none⟩)] w (Said D q mb tp mp w) := by
  unfold Said
  obtain ⟨R, hR⟩ : ∃ R, fb (badW D) D.nw 0 = R := ⟨_, rfl⟩
  rw [hR]
  have HR := Lib.hid hR
  clear hR
  have c0 := cell_at h 0
  have z := lt_of_heap h
  simp only [List.getElem?_toArray, List.getElem?_cons_zero] at c0
  obtain ⟨W1, hW1⟩ : ∃ W1, w.alloc (.map #[] 0) = W1 := ⟨_, rfl⟩
  have hB1 : Below w.heap.size w W1 := by rw [← hW1]; exact (Below.refl _ _).alloc (Nat.le_refl _) _
  have hs1 : W1.heap[w.heap.size]? = some (.map (ents MapStr.encK (seen D 0)) 0) := by rw [← hW1]; exact alloc_new rfl
  obtain ⟨sb, hsb⟩ : ∃ sb, w.heap.size = sb := ⟨_, rfl⟩
  have HS1 := Lib.hid (⟨(hB1.block mb z).trans h, hsb ▸ hs1, hA.keep hB1.size (fun _ _ hx => hB1.block _ hx), Nat.le_of_eq hsb, .of_below hB1⟩ : At1 w W1 D q mb sb 0 tp mp)
  have c1 := cell_at HS1.out.m 0
  simp only [List.getElem?_toArray, List.getElem?_cons_zero] at c1
  have z1 := lt_of_heap HS1.out.m
  have HNE := Lib.hid hne
  have HZ := Lib.hid z
  have HA := Lib.hid hA
  clear h hA hne hs1 hB1
  have hmm := @run_makeMap Tryd.prog
  go_enter Tryd.func67, Tryd.ntmps67
  go_wp2_with fail
  clear hmm hW1 hsb c0 c1 z z1
  go_loopg [16] D.nw (fun g s16 wr => ∃ k : Nat, k ≤ D.nw ∧ g = D.nw - k ∧ s16 = .int .i64 k ∧ fb (badW D) (D.nw - k) k = R ∧ At1 w wr D q mb sb k tp mp)
  case atStart => exact ⟨0, Nat.zero_le _, by omega, rfl, HR.out, HS1.out⟩
  case round =>
    obtain ⟨k, hk, hg, rfl, hfb, hS⟩ := hrel
    have HG := Lib.hid hg
    have HS := Lib.hid hS
    clear hg hS
    by_cases hlt : k < D.nw
    · have HO := Lib.hid (fun e (h1 : badW D k = e) (h2 : e ≠ 0) => fb_stop hfb hlt h1 h2)
      have HOn := Lib.hid (fun (h1 : badW D k = 0) => fb_on hfb hlt h1)
      clear hfb
      obtain ⟨b, off, hpa, hbl, hc⟩ := HS.out.r.at hlt
      have cw := hc k hlt
      have hbm : b ≠ mb := HNE.out _ hpa
      obtain ⟨s, hs⟩ : ∃ s, D.W k = s := ⟨_, rfl⟩
      rw [hs] at cw
      have HSK := Lib.hid hs
      have hki : (k : Int) < D.nw := by omega
      clear hc hs
      by_cases h2 : s.size < 2
      · have HX := Lib.hid (HO.out 21 (by unfold badW; rw [HSK.out, if_pos (by omega)]) (by decide))
        have h2i : (s.size : Int) < 2 := by omega
        rw [hpa]
        go_wp2
        go_ret2
        rw [HX.out]
        exact ⟨rfl, ⟨_, HS.out.m, fun h => absurd h (by simp)⟩, HS.out.u⟩
      by_cases h3 : 256 < s.size
      · have HX := Lib.hid (HO.out 21 (by unfold badW; rw [HSK.out, if_pos (by omega)]) (by decide))
        have h2i : ¬ ((s.size : Int) < 2) := by omega
        have h3i : (256 : Int) < s.size := by omega
        rw [hpa]
        go_wp2
        go_ret2
        rw [HX.out]
        exact ⟨rfl, ⟨_, HS.out.m, fun h => absurd h (by simp)⟩, HS.out.u⟩
      have h2i : ¬ ((s.size : Int) < 2) := by omega
      have h3i : ¬ ((256 : Int) < s.size) := by omega
      by_cases h4 : ∃ j, j < k ∧ D.W j = s
      · have HX := Lib.hid (HO.out 22 (by unfold badW; rw [HSK.out, if_neg (by omega), if_pos h4]) (by decide))
        obtain ⟨n, v, hl⟩ := seen_yes h4
        have hlk := run_lookup2 (MapStr.keyLaw) Tryd.underlying166 wr sb (seen D k) k s (.int .i64 0) HS.out.s (fun W => by kernel_rfl)
        rw [hl] at hlk
        simp only [MapStr.encK, Option.map_some, Option.getD_some, Option.isSome_some] at hlk
        clear hl h4
        rw [hpa]
        go_wp2
        go_ret2
        rw [HX.out]
        exact ⟨rfl, ⟨_, HS.out.m, fun h => absurd h (by simp)⟩, HS.out.u⟩
      · have HX := Lib.hid (HOn.out (by unfold badW; rw [HSK.out, if_neg (by omega), if_neg h4]))
        have hno := seen_no h4
        have hlk := run_lookup2 (MapStr.keyLaw) Tryd.underlying166 wr sb (seen D k) k s (.int .i64 0) HS.out.s (fun W => by kernel_rfl)
        rw [hno] at hlk
        simp only [MapStr.encK, Option.map_none, Option.getD_none, Option.isSome_none] at hlk
        have hup := run_update_new (MapStr.keyLaw) Tryd.underlying166 wr sb (seen D k) k s (.int .i64 k) HS.out.s hno
        rw [show ({ wr with heap := wr.heap.setIfInBounds sb (.map (ents MapStr.encK (seen D k ++ [(s, .int .i64 (k : Int), k)])) (k + 1)) } : World) = putM wr sb (.map (ents MapStr.encK (seen D k ++ [(s, .int .i64 (k : Int), k)])) (k + 1)) from rfl] at hup
        simp only [MapStr.encK] at hup
        obtain ⟨W4, hW4⟩ : ∃ W4, putM wr sb (.map (ents MapStr.encK (seen D k ++ [(s, .int .i64 (k : Int), k)])) (k + 1)) = W4 := ⟨_, rfl⟩
        have hU4 : Upd (fun i => i = sb) wr W4 := by rw [← hW4]; exact putM_upd _ _ _
        have hS4 : W4.heap[sb]? = some (.map (ents MapStr.encK (seen D (k + 1))) (k + 1)) := by
          rw [← hW4, seen_succ, HSK.out]; exact putM_at _ (lt_of_heap HS.out.s)
        have hmsb : mb ≠ sb := by have := HZ.out; have := HS.out.new; omega
        have hM4 : Blk W4 mb D q tp mp (lg D k) := (hU4.block mb (lt_of_heap HS.out.m) hmsb).trans HS.out.m
        have HS4 := Lib.hid hS4
        have HU4 := Lib.hid hU4
        have HM4 := Lib.hid hM4
        have d7 := cell_at hM4 7
        have f7 := free_at hM4 7
        have z4 := lt_of_heap hM4
        simp only [List.getElem?_toArray, List.getElem?_cons_zero, List.getElem?_cons_succ] at d7
        obtain ⟨l, hl⟩ : ∃ l, lg D k = l := ⟨_, rfl⟩
        rw [hl] at d7
        have HLK := Lib.hid hl
        clear hno hS4 hU4 hM4 hl
        rw [hpa]
        have HPA := Lib.hid hpa
        clear hpa hlt
        have nxt : ∀ (m : Nat) (W5 : World), m = max l s.size → W4.setCell ⟨mb, 7, none⟩ (.int .i64 (m : Int)) = W5 → At1 w W5 D q mb sb (k + 1) tp mp := by
          intro m W5 hm h5
          have hU5 : Upd (fun i => i = mb) W4 W5 := by rw [← h5]; exact Upd.setCell (S := fun i => i = mb) (p := ⟨mb, 7, none⟩) (Upd.refl _ _) (fun _ => rfl) _
          have hz := HZ.out
          have hnew := HS.out.new
          have hall : Upd (fun i => i = mb ∨ i = sb) w W5 := ((HS.out.u.mono (fun _ _ h => .inl h)).trans (HU4.out.mono (fun _ _ h => .inr h))).trans (hU5.mono (fun _ _ h => .inl h))
          have hu : Upd (fun i => i = mb) w W5 := hall.mono (fun i hi h => h.elim id (fun h => by omega))
          refine ⟨?_, (hU5.block sb (lt_of_heap HS4.out) (Ne.symm hmsb)).trans HS4.out, HA.out.keep hu.size (fun x hx hl => hu.block _ hl (HNE.out x hx)), hnew, hu⟩
          unfold Blk
          rw [← h5, heap_set HM4.out]
          have : lg D (k + 1) = m := by rw [hm]; unfold lg; rw [HLK.out, HSK.out]
          rw [this]
          rfl
        have NXT := Lib.hid nxt
        clear nxt
        rcases Int.lt_or_le (l : Int) s.size with hmx | hmx
        · go_wp2_with fail
          rw [← HPA.out]
          go_roundg (gk - 1)
          case measure => have := HG.out; omega
          case rel => exact ⟨k + 1, by omega, by have := HG.out; omega, by go_num, HX.out, NXT.out s.size _ (by omega) rfl⟩
        · go_wp2_with fail
          rw [← HPA.out]
          go_roundg (gk - 1)
          case measure => have := HG.out; omega
          case rel => exact ⟨k + 1, by omega, by have := HG.out; omega, by go_num, HX.out, NXT.out l _ (by omega) rfl⟩
    · have hkn : k = D.nw := by omega
      subst hkn
      have HX := Lib.hid (fb_end hfb)
      clear hfb
      go_wp2
      go_ret2
      rw [HX.out]
      exact ⟨rfl, ⟨_, HS.out.m, fun _ => rfl⟩, HS.out.u⟩
end Go.Proofs.YtkjkgpdfhmoenaaDoor.MoWords
namespace Go.Proofs.YtkjkgpdfhmoenaaDoor.MoPart
open Go Go.RowKit Go.Proofs.YtkjkgpdfhmoenaaDoor.Kit Go.Proofs.YtkjkgpdfhmoenaaDoor.SpFns Go.Proofs.YtkjkgpdfhmoenaaDoor.Dt Go.Proofs.YtkjkgpdfhmoenaaDoor.Mo
attribute [local irreducible] wpQuiet

/-- Which of the words the first k merges have made. -/
structure Bools (w : World) (D : Dt) (vb k : Nat) (V : Array Value) : Prop where
  v : w.heap[vb]? = some (.cells V 4 (0, 0))
  n : V.size = D.nw
  e : ∀ j : Nat, j < D.nw → V[j]? = some (.bool (decide (∃ i, i < k ∧ D.I i = 256 + (j : Int))))

structure Cap (w : World) (c1 c2 mb vb : Nat) (D : Dt) : Prop where
  m : w.heap[c1]? = some (.cells #[.pointer (some ⟨mb, 0, none⟩)] 27 (0, 0))
  l : w.heap[c2]? = some (.cells #[.slice (some ⟨vb, 0, none⟩) D.nw D.nw] 167 (0, 0))

theorem made_bool {D : Dt} {k : Nat} {id : Int} {j : Nat} (hj : id = 256 + (j : Int)) : decide (Made D k id) = decide (∃ i, i < k ∧ D.I i = 256 + (j : Int)) := by
  refine decide_eq_decide.2 ?_
  subst hj
  exact ⟨fun h => h.elim (fun h => by omega) (fun h => h.2), fun h => .inr ⟨by omega, h⟩⟩

set_option maxRecDepth 100000 in
theorem part_calls (w : World) (c1 c2 mb vb k : Nat) (D : Dt) (q : Pl) (tp : Value) (mp : Nat) (lg : Int) (V : Array Value) (hM : Blk w mb D q tp mp lg) (hn : D.nw ≤ 4096) (hC : Cap w c1 c2 mb vb D) (hV : Bools w D vb k V) (hI : ∀ i, i < k → D.I i < 256 + (D.nw : Int)) (id : Int) (hid : -9223372036854775808 ≤ id ∧ id ≤ 9223372036854775807) :
    Calls Tryd.prog 88 #[.int .i64 id, .pointer (some ⟨c1, 0, none⟩), .pointer (some ⟨c2, 0, none⟩)] w fun x w' => x = .returned (.bool (decide (Made D k id))) ∧ w = w' := by
  have HS := Lib.hid (Size_calls w mb D q tp mp lg hM hn)
  have d1 := cell_at hC.m 0
  have d2 := cell_at hC.l 0
  have z1 := lt_of_heap hC.m
  have z2 := lt_of_heap hC.l
  have HV := Lib.hid hV
  simp only [List.getElem?_toArray, List.getElem?_cons_zero] at d1 d2
  have HI := Lib.hid hI
  clear hM hC hV hI
  by_cases h0 : id < 0
  · have HX := Lib.hid (decide_eq_false (fun h => h.elim (fun h => by omega) (fun h => by omega)) : decide (Made D k id) = false)
    have h1 : ¬ (0 ≤ id) := by omega
    have h2 : ¬ (256 ≤ id) := by omega
    go_enter Tryd.func88, Tryd.ntmps88
    go_wp2
    go_ret
    rw [HX.out]
    exact ⟨rfl, rfl⟩
  have h0' : 0 ≤ id := by omega
  by_cases h1 : id < 256
  · have HX := Lib.hid (decide_eq_true (.inl ⟨h0', h1⟩) : decide (Made D k id) = true)
    go_enter Tryd.func88, Tryd.ntmps88
    go_wp2
    go_ret
    rw [HX.out]
    exact ⟨rfl, rfl⟩
  have h2 : 256 ≤ id := by omega
  by_cases h3 : id < 256 + (D.nw : Int)
  · obtain ⟨j, hj⟩ : ∃ j : Nat, id = 256 + (j : Int) := ⟨(id - 256).toNat, by omega⟩
    have hjn : j < D.nw := by omega
    have hji : (j : Int) < D.nw := by omega
    have hX := made_bool (D := D) (k := k) hj
    have HX := Lib.hid hX
    have e := cell_at HV.out.v j
    rw [HV.out.e j hjn, ← hX] at e
    have zv := lt_of_heap HV.out.v
    have hw : IntKind.i64.wrap (id - 256) = j := by rw [i64w _ (by omega) (by omega)]; omega
    obtain ⟨bo, hbo⟩ : ∃ bo, decide (Made D k id) = bo := ⟨_, rfl⟩
    rw [hbo] at e ⊢
    clear hX hbo hj
    go_enter Tryd.func88, Tryd.ntmps88
    go_wp2_with (refine HS.out.mono ?_; rintro e w' ⟨rfl, rfl⟩)
    go_ret
    exact ⟨rfl, rfl⟩
  · have HX := Lib.hid (decide_eq_false (fun h => h.elim (fun h => by omega) (fun h => by obtain ⟨_, i, hi, he⟩ := h; have := HI.out i hi; omega)) : decide (Made D k id) = false)
    go_enter Tryd.func88, Tryd.ntmps88
    go_wp2_with (refine HS.out.mono ?_; rintro e w' ⟨rfl, rfl⟩)
    go_ret
    rw [HX.out]
    exact ⟨rfl, rfl⟩
end Go.Proofs.YtkjkgpdfhmoenaaDoor.MoPart
namespace Go.Proofs.YtkjkgpdfhmoenaaDoor.MoPairs
open Go Go.RowKit Go.Proofs.YtkjkgpdfhmoenaaDoor.Kit Go.Proofs.YtkjkgpdfhmoenaaDoor.Maps Go.Proofs.YtkjkgpdfhmoenaaDoor.SpFns Go.Proofs.YtkjkgpdfhmoenaaDoor.Dt Go.Proofs.YtkjkgpdfhmoenaaDoor.Mo Go.Proofs.YtkjkgpdfhmoenaaDoor.MoPart Go.Proofs.YtkjkgpdfhmoenaaDoor.MapArr Go.Proofs.YtkjkgpdfhmoenaaDoor.Ref5b Go.Proofs.YtkjkgpdfhmoenaaDoor.Ref5c
attribute [local irreducible] wpQuiet

/-- The map of the first k pairs: each one's rank and id. -/
def prs (D : Dt) (k : Nat) : List ((Int × Int) × Value × Nat) := (List.range k).map fun j => ((D.A j, D.B j), .agg #[.int .i64 j, .int .i64 (D.I j)], j)
theorem prs_succ (D : Dt) (k : Nat) : prs D (k + 1) = prs D k ++ [((D.A k, D.B k), .agg #[.int .i64 k, .int .i64 (D.I k)], k)] := by simp [prs, List.range_succ]
theorem mem_prs (D : Dt) (k : Nat) (x : Int × Int) : x ∈ (prs D k).map (·.1) ↔ ∃ j, j < k ∧ D.A j = x.1 ∧ D.B j = x.2 := by
  simp only [prs, List.map_map, List.mem_map, List.mem_range, Function.comp]
  constructor
  · rintro ⟨j, hj, rfl⟩; exact ⟨j, hj, rfl, rfl⟩
  · rintro ⟨j, hj, h1, h2⟩; exact ⟨j, hj, Prod.ext h1 h2⟩

def Said (D : Dt) (mp : Nat) (w : World) (x : Ending) (w' : World) : Prop :=
  x = .returned (.tuple #[.int .i64 (fb (badM D) D.nm 0).1, .int .i64 (fb (badM D) D.nm 0).2]) ∧ ((fb (badM D) D.nm 0).2 = 0 → w'.heap[mp]? = some (.map (ents encP (prs D D.nm)) D.nm)) ∧ Upd (fun i => i = mp) w w'

/-- Where the loop stands. -/
structure At2 (w wr : World) (D : Dt) (c1 c2 mb vb mp k : Nat) : Prop where
  c : Cap wr c1 c2 mb vb D
  v : ∃ V, Bools wr D vb k V
  s : wr.heap[mp]? = some (.map (ents encP (prs D k)) k)
  g : ∀ i, i < k → badM D i = 0
  n1 : w.heap.size ≤ c1
  n2 : w.heap.size ≤ c2
  nv : w.heap.size ≤ vb
  d : c1 ≠ vb ∧ c2 ≠ vb
  u : Upd (fun i => i = mp) w wr

theorem At2.below {w wr w' : World} {D : Dt} {c1 c2 mb vb mp k : Nat} (h : At2 w wr D c1 c2 mb vb mp k) (hb : Below wr.heap.size wr w') : At2 w w' D c1 c2 mb vb mp k := by
  obtain ⟨V, hV⟩ := h.v
  exact ⟨⟨(hb.block _ (lt_of_heap h.c.m)).trans h.c.m, (hb.block _ (lt_of_heap h.c.l)).trans h.c.l⟩, ⟨V, (hb.block _ (lt_of_heap hV.v)).trans hV.v, hV.n, hV.e⟩, (hb.block _ (lt_of_heap h.s)).trans h.s, h.g, h.n1, h.n2, h.nv, h.d, h.u.later hb⟩

theorem infoB : (Tryd.prog.info? 4).map (fun i => (i.zero, i.size, i.bytes)) = some (some (.bool false), 1, 1) := by kernel_rfl
theorem makeB (n : Nat) (hn : n ≤ 4096) (w : World) :
    (Instr.makeSlice 167 (.int .i64 n) (.int .i64 n)).run Tryd.prog w = .ok (.slice (some ⟨w.heap.size, 0, none⟩) n n) (w.alloc (.cells (madeCells #[.bool false] n) 4)) := by
  obtain ⟨i, hi, hzz⟩ := Option.map_eq_some_iff.1 infoB
  simp only [Prod.mk.injEq] at hzz
  obtain ⟨hz, hs, hb⟩ := hzz
  have hr := run_make (P := Tryd.prog) w 167 4 i _ Tryd.underlying167 hi hz .i64 .i64 (n : Int) (n : Int) (by omega) (by omega) (by rw [hb]; omega) (by omega)
  rw [hs, Nat.mul_one, Int.toNat_natCast] at hr
  exact hr
theorem made_at (n j : Nat) (h : j < n) : (madeCells #[.bool false] n)[j]? = some (.bool false) := by
  rw [← Array.getElem?_toList, toList_madeCells_one, List.getElem?_replicate, if_pos h]

theorem bools_next {w w' : World} {D : Dt} {vb k j : Nat} {V : Array Value} (h : Bools w D vb k V) (hI : D.I k = 256 + (j : Int)) (hj : j < D.nw) (hw : w.setCell ⟨vb, j, none⟩ (.bool true) = w') : Bools w' D vb (k + 1) (V.setIfInBounds j (.bool true)) := by
  refine ⟨by rw [← hw]; exact heap_set h.v j _, by simp [h.n], fun i hi => ?_⟩
  by_cases hij : j = i
  · subst hij
    rw [Array.getElem?_setIfInBounds_self_of_lt (by rw [h.n]; exact hj)]
    exact congrArg (fun b => some (Value.bool b)) (decide_eq_true ⟨k, by omega, hI⟩).symm
  · rw [Array.getElem?_setIfInBounds_ne hij, h.e i hi]
    refine congrArg (fun b => some (Value.bool b)) (decide_eq_decide.2 ⟨fun ⟨i', a, b⟩ => ⟨i', by omega, b⟩, fun ⟨i', a, b⟩ => ⟨i', ?_, b⟩⟩)
    rcases Nat.lt_or_ge i' k with h' | h'
    · exact h'
    · have : i' = k := by omega
      subst this
      omega
theorem at2_next {w w1 w2 w3 : World} {D : Dt} {c1 c2 mb vb mp k j : Nat} {V : Array Value} (h : At2 w w1 D c1 c2 mb vb mp k) (hv : Bools w1 D vb k V) (hp : mp < w.heap.size) (hu : Upd (fun i => i = mp) w1 w2)
    (hm : w2.heap[mp]? = some (.map (ents encP (prs D (k + 1))) (k + 1))) (hI : D.I k = 256 + (j : Int)) (hj : j < D.nw) (hok : badM D k = 0) (hw : w2.setCell ⟨vb, j, none⟩ (.bool true) = w3) : At2 w w3 D c1 c2 mb vb mp (k + 1) := by
  have n1 := h.n1
  have n2 := h.n2
  have nv := h.nv
  have hv2 : Bools w2 D vb k V := ⟨(hu.block _ (lt_of_heap hv.v) (by omega)).trans hv.v, hv.n, hv.e⟩
  have hu3 : Upd (fun i => i = vb) w2 w3 := by rw [← hw]; exact Upd.setCell (S := fun i => i = vb) (p := ⟨vb, j, none⟩) (Upd.refl _ _) (fun _ => rfl) _
  have e1 : w2.heap[c1]? = w1.heap[c1]? := hu.block _ (lt_of_heap h.c.m) (by omega)
  have e2 : w2.heap[c2]? = w1.heap[c2]? := hu.block _ (lt_of_heap h.c.l) (by omega)
  have f1 : w3.heap[c1]? = w2.heap[c1]? := hu3.block _ (Nat.lt_of_lt_of_le (lt_of_heap h.c.m) hu.size) h.d.1
  have f2 : w3.heap[c2]? = w2.heap[c2]? := hu3.block _ (Nat.lt_of_lt_of_le (lt_of_heap h.c.l) hu.size) h.d.2
  refine ⟨⟨f1.trans (e1.trans h.c.m), f2.trans (e2.trans h.c.l)⟩, ⟨_, bools_next hv2 hI hj hw⟩, (hu3.block _ (lt_of_heap hm) (by omega)).trans hm, fun i hi => ?_, n1, n2, nv, h.d, ?_⟩
  · rcases Nat.lt_or_ge i k with h' | h'
    · exact h.g i h'
    · have : i = k := by omega
      subst this
      exact hok
  · have h0 : Upd (fun i => i = mp ∨ i = vb) w w3 := (h.u.mono (fun _ _ h => .inl h)).trans ((hu.mono (fun _ _ h => .inl h)).trans (hu3.mono (fun _ _ h => .inr h)))
    exact h0.mono (fun i hi h => h.elim id (fun h => by omega))

set_option maxHeartbeats 4000000 in
set_option maxRecDepth 100000 in
theorem pairs_calls (w : World) (mb : Nat) (D : Dt) (q : Pl) (tp : Value) (mp : Nat) (l : Int) (hM : Blk w mb D q tp mp l) (hA : At w D q) (hp : w.heap[mp]? = some (.map #[] 0)) (hne : mp ≠ mb ∧ ∀ b, q.has b → b ≠ mp) (hn : D.nw ≤ 4096) (hnm : D.nm = D.nw) :
    Calls Tryd.prog 68 #[.pointer (some ⟨mb, 0, none⟩)] w (Said D mp w) := by
  unfold Said
  obtain ⟨R, hR⟩ : ∃ R, fb (badM D) D.nm 0 = R := ⟨_, rfl⟩
  rw [hR]
  have HR := Lib.hid hR
  have HM := Lib.hid hM
  have HA := Lib.hid hA
  have HP := Lib.hid hp
  have HNE := Lib.hid hne
  have hmf : ∀ (fn : Fn) (first cap : Array Value) (w : World), (Instr.makeFunc fn first cap).run Tryd.prog w = .ok (.func fn first cap) w := fun _ _ _ _ => rfl
  clear hR hA hp hne
  obtain ⟨W1, hW1⟩ : ∃ W1, w.alloc (.cells #[.pointer (some ⟨mb, 0, none⟩)] 27) = W1 := ⟨_, rfl⟩
  have hB1 : Below w.heap.size w W1 := by rw [← hW1]; exact (Below.refl _ _).alloc (Nat.le_refl _) _
  obtain ⟨c1, hc1⟩ : ∃ c1, w.heap.size = c1 := ⟨_, rfl⟩
  have hx1 : W1.heap[c1]? = some (.cells #[.pointer (some ⟨mb, 0, none⟩)] 27 (0, 0)) := by rw [← hW1, ← hc1]; exact alloc_new rfl
  have HX1 := Lib.hid hx1
  have HB1 := Lib.hid hB1
  have d1 := cell_at HX1.out 0
  have b0 := cell_at ((hB1.block mb (lt_of_heap HM.out)).trans HM.out) 0
  have b1 := cell_at ((hB1.block mb (lt_of_heap HM.out)).trans HM.out) 1
  simp only [List.getElem?_toArray, List.getElem?_cons_zero, List.getElem?_cons_succ] at d1 b0 b1
  have z1 := lt_of_heap HX1.out
  have zm := lt_of_heap ((hB1.block mb (lt_of_heap HM.out)).trans HM.out)
  clear hM hx1
  have hmk := fun w => makeB D.nw hn w
  obtain ⟨W2, hW2⟩ : ∃ W2, W1.alloc (.cells (madeCells #[.bool false] D.nw) 4) = W2 := ⟨_, rfl⟩
  obtain ⟨vb, hvb⟩ : ∃ vb, W1.heap.size = vb := ⟨_, rfl⟩
  have hB2 : Below W1.heap.size W1 W2 := by rw [← hW2]; exact (Below.refl _ _).alloc (Nat.le_refl _) _
  have hx2 : W2.heap[vb]? = some (.cells (madeCells #[.bool false] D.nw) 4 (0, 0)) := by rw [← hW2, ← hvb]; exact alloc_new rfl
  obtain ⟨W3, hW3⟩ : ∃ W3, W2.alloc (.cells #[.slice none 0 0] 167) = W3 := ⟨_, rfl⟩
  obtain ⟨c2, hc2⟩ : ∃ c2, W2.heap.size = c2 := ⟨_, rfl⟩
  have hB3 : Below W2.heap.size W2 W3 := by rw [← hW3]; exact (Below.refl _ _).alloc (Nat.le_refl _) _
  have hx3 : W3.heap[c2]? = some (.cells #[.slice none 0 0] 167 (0, 0)) := by rw [← hW3, ← hc2]; exact alloc_new rfl
  obtain ⟨W4, hW4⟩ : ∃ W4, W3.setCell ⟨c2, 0, none⟩ (.slice (some ⟨vb, 0, none⟩) D.nw D.nw) = W4 := ⟨_, rfl⟩
  have hU4 : Upd (fun i => i = c2) W3 W4 := by rw [← hW4]; exact Upd.setCell (S := fun i => i = c2) (p := ⟨c2, 0, none⟩) (Upd.refl _ _) (fun _ => rfl) _
  have hx4 : W4.heap[c2]? = some (.cells #[.slice (some ⟨vb, 0, none⟩) D.nw D.nw] 167 (0, 0)) := by rw [← hW4, heap_set hx3]; rfl
  have l1 : c1 < vb := by rw [← hvb]; exact z1
  have l2 : vb < c2 := by rw [← hc2]; exact lt_of_heap hx2
  have hB13 : Below W1.heap.size W1 W3 := chain hB2 hB3
  have hB03 : Below w.heap.size w W3 := chain hB1 hB13
  have hnew : w.heap.size ≤ c1 := Nat.le_of_eq hc1
  have hB04 : Below w.heap.size w W4 := hB03.trans (hU4.below hB03.size (fun i hi h => by omega))
  have HS0 := Lib.hid (by
    refine ⟨⟨?_, hx4⟩, ⟨madeCells #[.bool false] D.nw, ⟨?_, size_madeCells _ _, fun j hj => ?_⟩⟩, ?_, fun i hi => (by omega), hnew, by omega, by omega, ⟨by omega, by omega⟩, .of_below hB04⟩
    · exact (hU4.block c1 (lt_of_heap (hB13.block c1 z1 ▸ HX1.out)) (by omega)).trans ((hB13.block c1 z1).trans HX1.out)
    · exact (hU4.block vb (by rw [← hc2] at l2; exact Nat.lt_of_lt_of_le l2 hB3.size) (by omega)).trans ((hB3.block vb (by rw [← hc2] at l2; exact l2)).trans hx2)
    · rw [made_at _ _ hj, decide_eq_false]
      rintro ⟨i, hi, _⟩
      omega
    · exact (hB04.block mp (lt_of_heap HP.out)).trans HP.out : At2 w W4 D c1 c2 mb vb mp 0)
  have HM4 := Lib.hid ((hB04.block mb (lt_of_heap HM.out)).trans HM.out : Blk W4 mb D q tp mp l)
  have e1 := cell_at HM4.out 1
  have g1 := cell_at HS0.out.c.m 0
  have zm4 := lt_of_heap HM4.out
  have zc4 := lt_of_heap HS0.out.c.m
  have zz3 := lt_of_heap hx3
  have zf3 := free_at hx3 0
  have zd3 := cell_at hx3 0
  simp only [List.getElem?_toArray, List.getElem?_cons_zero, List.getElem?_cons_succ] at e1 g1 zd3
  clear hB1 hB2 hx2 hB3 hx3 hU4 hx4 hB13 hB03 hB04
  go_enter Tryd.func68, Tryd.ntmps68
  go_wp2_with fail
  clear hW1 hW2 hW3 hW4 hvb hc1 hc2 hmk hmf l1 l2 hnew e1 g1 zm4 zc4 zz3 zf3 zd3 b0 b1 d1 z1 zm
  go_loopg [29] D.nm (fun g s29 wr => ∃ k : Nat, k ≤ D.nm ∧ g = D.nm - k ∧ s29 = .int .i64 k ∧ fb (badM D) (D.nm - k) k = R ∧ At2 w wr D c1 c2 mb vb mp k)
  case atStart => exact ⟨0, Nat.zero_le _, by omega, rfl, HR.out, HS0.out⟩
  case round =>
    obtain ⟨k, hk, hg, rfl, hfb, hS⟩ := hrel
    have HG := Lib.hid hg
    have HS := Lib.hid hS
    clear hg hS
    by_cases hlt : k < D.nm
    · have HO := Lib.hid (fun e (h1 : badM D k = e) (h2 : e ≠ 0) => fb_stop hfb hlt h1 h2)
      have HOn := Lib.hid (fun (h1 : badM D k = 0) => fb_on hfb hlt h1)
      clear hfb
      have hki : (k : Int) < D.nm := by omega
      obtain ⟨r0, r1, r2⟩ := HA.out.rng k hlt
      obtain ⟨b, off, hpa, hbl, hc⟩ := (HA.out.upd HS.out.u HNE.out.2).rm.at hlt
      obtain ⟨a0, a1, a2⟩ := hc k hlt
      have HMr := Lib.hid ((HS.out.u.block mb (lt_of_heap HM.out) (Ne.symm HNE.out.1)).trans HM.out : Blk wr mb D q tp mp l)
      obtain ⟨va, hva⟩ : ∃ v, v = D.A k := ⟨_, rfl⟩
      obtain ⟨vb', hvb'⟩ : ∃ v, v = D.B k := ⟨_, rfl⟩
      obtain ⟨vi, hvi⟩ : ∃ v, v = D.I k := ⟨_, rfl⟩
      rw [← hva] at a0 r0
      rw [← hvb'] at a1 r1
      rw [← hvi] at a2 r2
      have HVA := Lib.hid hva
      have HVB := Lib.hid hvb'
      have HVI := Lib.hid hvi
      obtain ⟨W5, hW5⟩ : ∃ W5, wr.alloc (.cells #[.int .i64 va, .int .i64 vb', .int .i64 vi] 127) = W5 := ⟨_, rfl⟩
      obtain ⟨xb, hxb⟩ : ∃ xb, wr.heap.size = xb := ⟨_, rfl⟩
      have hB5 : Below wr.heap.size wr W5 := by rw [← hW5]; exact (Below.refl _ _).alloc (Nat.le_refl _) _
      have hx5 : W5.heap[xb]? = some (.cells #[.int .i64 va, .int .i64 vb', .int .i64 vi] 127 (0, 0)) := by rw [← hW5, ← hxb]; exact alloc_new rfl
      obtain ⟨W6, hW6⟩ : ∃ W6, W5.alloc (.cells #[.int .i64 va, .int .i64 vb'] 168) = W6 := ⟨_, rfl⟩
      obtain ⟨pb, hpb⟩ : ∃ pb, W5.heap.size = pb := ⟨_, rfl⟩
      have hB6 : Below W5.heap.size W5 W6 := by rw [← hW6]; exact (Below.refl _ _).alloc (Nat.le_refl _) _
      have hx6 : W6.heap[pb]? = some (.cells #[.int .i64 va, .int .i64 vb'] 168 (0, 0)) := by rw [← hW6, ← hpb]; exact alloc_new rfl
      have hB56 : Below wr.heap.size wr W6 := chain hB5 hB6
      have y0 := cell_at hx5 0
      have y1 := cell_at hx5 1
      have zx5 := lt_of_heap hx5
      simp only [List.getElem?_toArray, List.getElem?_cons_zero, List.getElem?_cons_succ] at y0 y1
      have HXB := Lib.hid ((hB6.block xb zx5).trans hx5)
      have HPB := Lib.hid hx6
      have HB6 := Lib.hid hB56
      have HXM := Lib.hid (by rw [← hxb]; exact Nat.lt_of_lt_of_le (lt_of_heap HP.out) HS.out.u.size : mp < xb)
      have HM6 := Lib.hid ((hB56.block mb (lt_of_heap HMr.out)).trans HMr.out : Blk W6 mb D q tp mp l)
      have HS6 := Lib.hid (At2.below HS.out hB56)
      clear hB5 hx5 hB6 hx6 hB56 hva hvb' hvi hc
      have HPA := Lib.hid hpa
      have zbl := hbl
      rw [hpa]
      go_wp2_with fail
      clear hW5 hxb hW6 hpb y0 y1 zx5 a0 a1 a2 zbl hbl
      have HSZ := Lib.hid (fun (x : Later W6) => Size_calls x.w mb D q tp mp l ((x.heap (lt_of_heap HM6.out)).trans HM6.out) hn)
      have x2 := cell_at HXB.out 2
      have zx := lt_of_heap HXB.out
      have g1 := cell_at HS6.out.c.m 0
      have g2 := cell_at HS6.out.c.l 0
      have z1 := lt_of_heap HS6.out.c.m
      have z2 := lt_of_heap HS6.out.c.l
      simp only [List.getElem?_toArray, List.getElem?_cons_zero, List.getElem?_cons_succ] at x2 g1 g2
      by_cases h1 : vi < 256
      · have HX := Lib.hid (HO.out 24 (badM_1 (HVI.out ▸ h1)) (by decide))
        refine region_calm (by kernel_rfl) (by kernel_rfl) ?_
        repeat (quiet_step ((fail)))
        refine wpQuiet_nil ?_
        rintro _ ⟨x, rfl⟩
        go_wp2
        go_ret2
        rw [HX.out]
        exact ⟨rfl, fun h => absurd h (by simp), HS.out.u.later (Later.chain HB6.out x)⟩
      by_cases h2 : 256 + (D.nw : Int) ≤ vi
      · have HX := Lib.hid (HO.out 24 (badM_2 (HVI.out ▸ h2)) (by decide))
        refine region_calm (by kernel_rfl) (by kernel_rfl) ?_
        repeat (quiet_step ((with_reducible exact later_same (HSZ.out _))))
        refine wpQuiet_nil ?_
        rintro _ ⟨x, rfl⟩
        go_wp2
        go_ret2
        rw [HX.out]
        exact ⟨rfl, fun h => absurd h (by simp), HS.out.u.later (Later.chain HB6.out x)⟩
      obtain ⟨j, hj⟩ : ∃ j : Nat, vi = 256 + (j : Int) := ⟨(vi - 256).toNat, by omega⟩
      have hjn : j < D.nw := by omega
      have hji : (j : Int) < D.nw := by omega
      have hw : IntKind.i64.wrap (vi - 256) = j := by rw [i64w _ (by omega) (by omega)]; omega
      obtain ⟨V, hV⟩ := HS6.out.v
      have hX := made_bool (D := D) (k := k) hj
      have ev := cell_at hV.v j
      rw [hV.e j hjn, ← hX] at ev
      have zv := lt_of_heap hV.v
      have HV := Lib.hid hV
      obtain ⟨bo, hbo⟩ : ∃ bo, decide (Made D k vi) = bo := ⟨_, rfl⟩
      rw [hbo] at ev
      have HBO := Lib.hid hbo
      have HJ := Lib.hid hj
      clear hX hbo hV hj
      cases bo
      case true =>
        have HX := Lib.hid (HO.out 24 (badM_3 (by rw [← HVI.out]; omega) (by rw [← HVI.out]; exact HBO.out)) (by decide))
        refine region_calm (by kernel_rfl) (by kernel_rfl) ?_
        repeat (quiet_step ((with_reducible exact later_same (HSZ.out _))))
        refine wpQuiet_nil ?_
        rintro _ ⟨x, rfl⟩
        go_wp2
        go_ret2
        rw [HX.out]
        exact ⟨rfl, fun h => absurd h (by simp), HS.out.u.later (Later.chain HB6.out x)⟩
      case false =>
        refine region_calm (by kernel_rfl) (by kernel_rfl) ?_
        repeat (quiet_step ((with_reducible exact later_same (HSZ.out _))))
        refine wpQuiet_nil ?_
        rintro _ ⟨x, rfl⟩
        have hb7 := x.h
        have HXB7 := Lib.hid ((hb7.block xb zx).trans HXB.out)
        have HPB7 := Lib.hid ((hb7.block pb (lt_of_heap HPB.out)).trans HPB.out)
        have HM7 := Lib.hid ((hb7.block mb (lt_of_heap HM6.out)).trans HM6.out : Blk x.w mb D q tp mp l)
        have HS7 := Lib.hid (At2.below HS6.out hb7)
        have HV7 := Lib.hid (⟨(hb7.block vb zv).trans HV.out.v, HV.out.n, HV.out.e⟩ : Bools x.w D vb k V)
        have HB7 := Lib.hid (chain HB6.out hb7)
        generalize x.w = W7 at *
        clear hb7 HSZ HXB HPB HM6 HS6 HV HB6 x2 zx g1 g2 z1 z2 ev zv
        have HPT := Lib.hid (fun (id : Int) (h : -9223372036854775808 ≤ id ∧ id ≤ 9223372036854775807) => part_calls W7 c1 c2 mb vb k D q tp mp l V HM7.out hn HS7.out.c HV7.out (fun i hi => Int.not_le.1 fun h2 => by have := HS7.out.g i hi; rw [badM_2 h2] at this; cases this) id h)
        have x0 := cell_at HXB7.out 0
        have x1 := cell_at HXB7.out 1
        have x2 := cell_at HXB7.out 2
        have zx := lt_of_heap HXB7.out
        have g1 := cell_at HS7.out.c.m 0
        have z1 := lt_of_heap HS7.out.c.m
        simp only [List.getElem?_toArray, List.getElem?_cons_zero, List.getElem?_cons_succ] at x0 x1 x2 g1
        have kA := HPT.out va r0
        have kB := HPT.out vb' r1
        obtain ⟨pa, hpA⟩ : ∃ pa, decide (Made D k va) = pa := ⟨_, rfl⟩
        obtain ⟨pB, hpB⟩ : ∃ pB, decide (Made D k vb') = pB := ⟨_, rfl⟩
        rw [hpA] at kA
        rw [hpB] at kB
        have HKA := Lib.hid kA
        have HKB := Lib.hid kB
        have HPA' := Lib.hid hpA
        have HPB' := Lib.hid hpB
        clear kA kB hpA hpB
        cases pa
        case false =>
          have HX := Lib.hid (HO.out 23 (badM_4 (by rw [← HVI.out]; omega) (by rw [← HVI.out]; omega) (by rw [← HVI.out]; exact HBO.out) (.inl (by rw [← HVA.out]; exact HPA'.out))) (by decide))
          go_wp2_with fail
          refine HKA.out.mono ?_
          rintro e w' ⟨rfl, rfl⟩
          go_wp2
          go_ret2
          rw [HX.out]
          exact ⟨rfl, fun h => absurd h (by simp), HS.out.u.later HB7.out⟩
        cases pB
        case false =>
          have HX := Lib.hid (HO.out 23 (badM_4 (by rw [← HVI.out]; omega) (by rw [← HVI.out]; omega) (by rw [← HVI.out]; exact HBO.out) (.inr (by rw [← HVB.out]; exact HPB'.out))) (by decide))
          go_wp2_with fail
          refine HKA.out.mono ?_
          rintro e w' ⟨rfl, rfl⟩
          go_wp2_with fail
          refine HKB.out.mono ?_
          rintro e w' ⟨rfl, rfl⟩
          go_wp2
          go_ret2
          rw [HX.out]
          exact ⟨rfl, fun h => absurd h (by simp), HS.out.u.later HB7.out⟩
        go_wp2_with fail
        refine HKA.out.mono ?_
        rintro e w' ⟨rfl, rfl⟩
        go_wp2_with fail
        refine HKB.out.mono ?_
        rintro e w' ⟨rfl, rfl⟩
        go_wp2_with fail
        have hWR7 : WRow W7 q.a0 D.nw D.W := (HA.out.upd (HS.out.u.later HB7.out) HNE.out.2).rw
        refine (Mo.Word_calls W7 mb D q tp mp l HM7.out hWR7 hn va r0).mono ?_
        rintro e W8 ⟨rfl, hb8⟩
        have HXB8 := Lib.hid ((hb8.block xb zx).trans HXB7.out)
        have HPB8 := Lib.hid ((hb8.block pb (lt_of_heap HPB7.out)).trans HPB7.out)
        have HM8 := Lib.hid ((hb8.block mb (lt_of_heap HM7.out)).trans HM7.out : Blk W8 mb D q tp mp l)
        have HS8 := Lib.hid (At2.below HS7.out hb8)
        have HV8 := Lib.hid (⟨(hb8.block vb (lt_of_heap HV7.out.v)).trans HV7.out.v, HV7.out.n, HV7.out.e⟩ : Bools W8 D vb k V)
        have HB8 := Lib.hid (chain HB7.out hb8)
        clear hb8 hWR7 HKA HKB HPT HXB7 HPB7 HM7 HS7 HV7 HB7 x0 x1 x2 zx g1 z1
        have x1 := cell_at HXB8.out 1
        have zx := lt_of_heap HXB8.out
        have g1 := cell_at HS8.out.c.m 0
        have z1 := lt_of_heap HS8.out.c.m
        simp only [List.getElem?_toArray, List.getElem?_cons_zero, List.getElem?_cons_succ] at x1 g1
        obtain ⟨s1, hs1⟩ : ∃ s1, word D va = s1 := ⟨_, rfl⟩
        rw [hs1]
        have HS1 := Lib.hid hs1
        clear hs1
        go_wp2_with fail
        have hWR8 : WRow W8 q.a0 D.nw D.W := (HA.out.upd (HS.out.u.later HB8.out) HNE.out.2).rw
        refine (Mo.Word_calls W8 mb D q tp mp l HM8.out hWR8 hn vb' r1).mono ?_
        rintro e W9 ⟨rfl, hb9⟩
        have HXB9 := Lib.hid ((hb9.block xb zx).trans HXB8.out)
        have HPB9 := Lib.hid ((hb9.block pb (lt_of_heap HPB8.out)).trans HPB8.out)
        have HM9 := Lib.hid ((hb9.block mb (lt_of_heap HM8.out)).trans HM8.out : Blk W9 mb D q tp mp l)
        have HS9 := Lib.hid (At2.below HS8.out hb9)
        have HV9 := Lib.hid (⟨(hb9.block vb (lt_of_heap HV8.out.v)).trans HV8.out.v, HV8.out.n, HV8.out.e⟩ : Bools W9 D vb k V)
        have HB9 := Lib.hid (chain HB8.out hb9)
        clear hb9 hWR8 HXB8 HPB8 HM8 HS8 HV8 HB8 x1 zx g1 z1
        obtain ⟨s2, hs2⟩ : ∃ s2, word D vb' = s2 := ⟨_, rfl⟩
        rw [hs2]
        have HS2 := Lib.hid hs2
        clear hs2
        have hq0 : decide (Made D k (D.I k)) = false := by rw [← HVI.out]; exact HBO.out
        have hqa : decide (Made D k (D.A k)) = true := by rw [← HVA.out]; exact HPA'.out
        have hqb : decide (Made D k (D.B k)) = true := by rw [← HVB.out]; exact HPB'.out
        have hi0 : 256 ≤ D.I k := by rw [← HVI.out]; omega
        have hi1 : D.I k < 256 + (D.nw : Int) := by rw [← HVI.out]; omega
        have hjw : (D.I k - 256).toNat = j := by rw [← HVI.out, HJ.out]; omega
        have hsw : word D (D.A k) ++ word D (D.B k) = s1 ++ s2 := by rw [← HVA.out, ← HVB.out, HS1.out, HS2.out]
        have h5 := badM_5 hi0 hi1 hq0 hqa hqb
        have h6 := badM_6 hi0 hi1 hq0 hqa hqb
        have h7 := badM_7 hi0 hi1 hq0 hqa hqb
        rw [hjw, hsw] at h5 h6 h7
        have H5 := Lib.hid h5
        have H6 := Lib.hid h6
        have H7 := Lib.hid h7
        have n1 := word_size HA.out.sz va
        have n2 := word_size HA.out.sz vb'
        rw [HS1.out] at n1
        rw [HS2.out] at n2
        have hWR9 : WRow W9 q.a0 D.nw D.W := (HA.out.upd (HS.out.u.later HB9.out) HNE.out.2).rw
        obtain ⟨b3, off3, hp3, hb3, hc3⟩ := hWR9.at hjn
        have cw := hc3 j hjn
        obtain ⟨u, hu⟩ : ∃ u, D.W j = u := ⟨_, rfl⟩
        rw [hu] at cw
        have HU := Lib.hid hu
        have m0 := cell_at HM9.out 0
        have x2 := cell_at HXB9.out 2
        have zx := lt_of_heap HXB9.out
        have g1 := cell_at HS9.out.c.m 0
        have z1 := lt_of_heap HS9.out.c.m
        have zm := lt_of_heap HM9.out
        simp only [List.getElem?_toArray, List.getElem?_cons_zero, List.getElem?_cons_succ] at m0 x2 g1
        rw [hp3] at m0
        clear hq0 hqa hqb hi0 hi1 hjw hsw h5 h6 h7 hWR9 hp3 hc3 hu
        have hls : s1.size + s2.size ≤ 9223372036854775807 := by omega
        have hadd : ∀ w, (Op.stringOp .add s1 s2).run Tryd.prog w = .ok (.string (s1 ++ s2)) w := fun w => run_string_add_sum w s1 s2 (by omega)
        clear n1 n2
        by_cases hus : u = s1 ++ s2
        · have e1 : (!(u.toList == (s1 ++ s2).toList)) = false := by rw [beq_texts, decide_eq_true hus]; rfl
          have HUS := Lib.hid hus
          clear hus
          go_wp2_with fail
          refine region_calm (by kernel_rfl) (by kernel_rfl) ?_
          repeat (quiet_step ((fail)))
          refine wpQuiet_nil ?_
          rintro _ ⟨x, rfl⟩
          have hb10 := x.h
          have HXB10 := Lib.hid ((hb10.block xb zx).trans HXB9.out)
          have HPB10 := Lib.hid ((hb10.block pb (lt_of_heap HPB9.out)).trans HPB9.out)
          have HM10 := Lib.hid ((hb10.block mb (lt_of_heap HM9.out)).trans HM9.out : Blk x.w mb D q tp mp l)
          have HS10 := Lib.hid (At2.below HS9.out hb10)
          have HV10 := Lib.hid (⟨(hb10.block vb (lt_of_heap HV9.out.v)).trans HV9.out.v, HV9.out.n, HV9.out.e⟩ : Bools x.w D vb k V)
          have HB10 := Lib.hid (chain HB9.out hb10)
          generalize x.w = W10 at *
          clear hb10 HXB9 HPB9 HM9 HS9 HV9 HB9 m0 x2 zx g1 z1 zm cw hb3 e1 hls hadd
          have m6 := cell_at HM10.out 6
          have zm := lt_of_heap HM10.out
          have p0 := cell_at HPB10.out 0
          have p1 := cell_at HPB10.out 1
          have zp := lt_of_heap HPB10.out
          have x2 := cell_at HXB10.out 2
          have zx := lt_of_heap HXB10.out
          have g1 := cell_at HS10.out.c.m 0
          have z1 := lt_of_heap HS10.out.c.m
          simp only [List.getElem?_toArray, List.getElem?_cons_zero, List.getElem?_cons_succ] at m6 p0 p1 x2 g1
          have zmp := lt_of_heap HS10.out.s
          by_cases hdup : ∃ i, i < k ∧ D.A i = D.A k ∧ D.B i = D.B k
          · have HX := Lib.hid (HO.out 22 (H6.out (by rw [HU.out]; exact HUS.out) hdup) (by decide))
            obtain ⟨n, i9, hl⟩ : ∃ n i9, lk (va, vb') (prs D k) 0 = some (n, .agg #[.int .i64 (i9 : Nat), .int .i64 (D.I i9)]) := by
              cases hl : lk (va, vb') (prs D k) 0 with
              | none =>
                refine absurd ((mem_prs D k (va, vb')).2 ?_) (lk_none.1 hl)
                rw [HVA.out, HVB.out]
                exact hdup
              | some y =>
                obtain ⟨n, v⟩ := y
                obtain ⟨A', e', B', hAB, _, _, hv⟩ := lk_some hl
                have hm : e' ∈ prs D k := by rw [hAB]; simp
                obtain ⟨i9, _, rfl⟩ := List.mem_map.1 hm
                exact ⟨n, i9, by rw [← hv]⟩
            obtain ⟨i8, hi8⟩ : ∃ z, z = D.I i9 := ⟨_, rfl⟩
            rw [← hi8] at hl
            have hlk : ∀ x : Later W10, (Instr.lookup 114 (.map (some mp)) (.agg #[.int .i64 va, .int .i64 vb']) true).run Tryd.prog x.w = .ok (.tuple #[.agg #[.int .i64 i9, .int .i64 i8], .bool true]) x.w := fun x => by
              have := run_lookup2 pairLaw Tryd.underlying114 x.w mp (prs D k) k (va, vb') (.agg #[.int .i64 0, .int .i64 0]) ((x.heap zmp).trans HS10.out.s) (fun W => by kernel_rfl)
              rw [hl] at this
              simpa only [encP, Option.map_some, Option.getD_some, Option.isSome_some] using this
            clear hdup hl hi8
            go_wp2_with fail
            refine RG_begin 12 #[false, false, false, false, false, false, false, false, false, false, false, false] rfl rfl (by kernel_rfl) (fun R hR hacc => ?_)
            refine RG_take (i := 0) (v := ?v15xa1) (some 103) #[true, false, false, false, false, false, false, false, false, false, false, false] rfl rfl (by kernel_rfl) (by kernel_rfl) (by kernel_rfl) rfl rfl (fun x => ?h15xa1) ?n15xa1
            case h15xa1 => (go_simp; try with_reducible rfl)
            try simp only [Act.put, List.setIfInBounds_toArray, List.set_cons_zero, List.set_cons_succ]
            refine RG_take (i := 1) (v := ?v15xa2) (some 104) #[true, true, false, false, false, false, false, false, false, false, false, false] rfl rfl (by kernel_rfl) (by kernel_rfl) (by kernel_rfl) rfl rfl (fun x => ?h15xa2) ?n15xa2
            case h15xa2 => (go_simp; try with_reducible rfl)
            try simp only [Act.put, List.setIfInBounds_toArray, List.set_cons_zero, List.set_cons_succ]
            refine RG_take (i := 2) (v := ?v15xa3) (some 105) #[true, true, true, false, false, false, false, false, false, false, false, false] rfl rfl (by kernel_rfl) (by kernel_rfl) (by kernel_rfl) rfl rfl (fun x => ?h15xa3) ?n15xa3
            case h15xa3 => (go_simp; try with_reducible rfl)
            try simp only [Act.put, List.setIfInBounds_toArray, List.set_cons_zero, List.set_cons_succ]
            refine RG_take (i := 3) (v := ?v15xa4) (some 106) #[true, true, true, true, false, false, false, false, false, false, false, false] rfl rfl (by kernel_rfl) (by kernel_rfl) (by kernel_rfl) rfl rfl (fun x => ?h15xa4) ?n15xa4
            case h15xa4 => (go_simp; try with_reducible rfl)
            try simp only [Act.put, List.setIfInBounds_toArray, List.set_cons_zero, List.set_cons_succ]
            refine RG_take (i := 4) (v := ?v15xa5) (some 107) #[true, true, true, true, true, false, false, false, false, false, false, false] rfl rfl (by kernel_rfl) (by kernel_rfl) (by kernel_rfl) rfl rfl (fun x => ?h15xa5) ?n15xa5
            case h15xa5 => (go_simp; try with_reducible rfl)
            try simp only [Act.put, List.setIfInBounds_toArray, List.set_cons_zero, List.set_cons_succ]
            refine RG_take (i := 5) (v := ?v15xa6) (some 108) #[true, true, true, true, true, true, false, false, false, false, false, false] rfl rfl (by kernel_rfl) (by kernel_rfl) (by kernel_rfl) rfl rfl (fun x => ?h15xa6) ?n15xa6
            case h15xa6 => (go_simp; try with_reducible rfl)
            try simp only [Act.put, List.setIfInBounds_toArray, List.set_cons_zero, List.set_cons_succ]
            refine RG_take (i := 6) (v := ?v15xa7) (some 102) #[true, true, true, true, true, true, true, false, false, false, false, false] rfl rfl (by kernel_rfl) (by kernel_rfl) (by kernel_rfl) rfl rfl (fun x => ?h15xa7) ?n15xa7
            case h15xa7 => (go_simp; try with_reducible rfl)
            try simp only [Act.put, List.setIfInBounds_toArray, List.set_cons_zero, List.set_cons_succ]
            refine RG_take (i := 7) (v := ?v15xa8) (some 109) #[true, true, true, true, true, true, true, true, false, false, false, false] rfl rfl (by kernel_rfl) (by kernel_rfl) (by kernel_rfl) rfl rfl (fun x => ?h15xa8) ?n15xa8
            case h15xa8 => (go_simp; try with_reducible rfl)
            try simp only [Act.put, List.setIfInBounds_toArray, List.set_cons_zero, List.set_cons_succ]
            refine RG_take (i := 8) (v := ?v15xa9) (some 110) #[true, true, true, true, true, true, true, true, true, false, false, false] rfl rfl (by kernel_rfl) (by kernel_rfl) (by kernel_rfl) rfl rfl (fun x => ?h15xa9) ?n15xa9
            case h15xa9 => (go_simp; try with_reducible rfl)
            try simp only [Act.put, List.setIfInBounds_toArray, List.set_cons_zero, List.set_cons_succ]
            refine RG_one (i := 9) #[true, true, true, true, true, true, true, true, true, true, false, false] rfl (by kernel_rfl) rfl rfl (fun K hK => ?_)
            go_wp2_with (fail)
            refine RG_keep hK (by first | exact ((Below.refl _ _).alloc (Nat.le_refl _) _).drew | exact chain hacc hbx | exact hacc.alloc hacc.size _ | exact Below.alloc (by assumption) (by omega) _ | exact hacc | exact hacc.trans (hbx.mono (by have := hacc.size; simp; omega)) | exact (hacc.alloc hacc.size _).trans (hbx.mono (by have := hacc.size; simp; omega)) | exact (hacc.setCell (by first | omega | (simp; done) | (simp; omega)) _).setCell (by first | omega | (simp; done) | (simp; omega)) _ | (repeat (first | (with_reducible exact hacc) | (with_reducible refine Below.setCell ?_ (by first | exact Nat.le_refl _ | omega) _)))) (fun hacc => ?_)
            have hsz := hacc.size
            try simp only [World.size_alloc] at hsz
            clear hK K
            try simp only [Act.put, List.setIfInBounds_toArray, List.set_cons_zero, List.set_cons_succ]
            refine RG_one (i := 10) #[true, true, true, true, true, true, true, true, true, true, true, false] rfl (by kernel_rfl) rfl rfl (fun K hK => ?_)
            go_wp2_with (fail)
            refine RG_keep hK (by first | exact ((Below.refl _ _).alloc (Nat.le_refl _) _).drew | exact chain hacc hbx | exact hacc.alloc hacc.size _ | exact Below.alloc (by assumption) (by omega) _ | exact hacc | exact hacc.trans (hbx.mono (by have := hacc.size; simp; omega)) | exact (hacc.alloc hacc.size _).trans (hbx.mono (by have := hacc.size; simp; omega)) | exact (hacc.setCell (by first | omega | (simp; done) | (simp; omega)) _).setCell (by first | omega | (simp; done) | (simp; omega)) _ | (repeat (first | (with_reducible exact hacc) | (with_reducible refine Below.setCell ?_ (by first | exact Nat.le_refl _ | omega) _)))) (fun hacc => ?_)
            have hsz := hacc.size
            try simp only [World.size_alloc] at hsz
            clear hK K
            try simp only [Act.put, List.setIfInBounds_toArray, List.set_cons_zero, List.set_cons_succ]
            refine RG_take (i := 11) (v := ?v15xa10) (some 14) #[true, true, true, true, true, true, true, true, true, true, true, true] rfl rfl (by kernel_rfl) (by kernel_rfl) (by kernel_rfl) rfl rfl (fun x => ?h15xa10) ?n15xa10
            case h15xa10 => (go_simp; try with_reducible rfl)
            try simp only [Act.put, List.setIfInBounds_toArray, List.set_cons_zero, List.set_cons_succ]
            refine RG_done (by kernel_rfl) ?_
            refine hR _ _ ?_
            have hacc11 := hacc
            generalize World.setCell (World.setCell _ _ _) _ _ = W11 at hacc11 ⊢
            have HB11 := Lib.hid (chain HB10.out hacc11)
            clear hacc11
            go_wp2
            go_ret2
            rw [HX.out]
            exact ⟨rfl, fun h => absurd h (by simp), HS.out.u.later HB11.out⟩
          · have HOK := Lib.hid (H7.out (by rw [HU.out]; exact HUS.out) (fun i hi h => hdup ⟨i, hi, h⟩))
            have hno : lk (va, vb') (prs D k) 0 = none := lk_none.2 (fun hm => hdup (by have := (mem_prs D k (va, vb')).1 hm; rw [HVA.out, HVB.out] at this; exact this))
            have HNO := Lib.hid hno
            have hlk : ∀ x : Later W10, (Instr.lookup 114 (.map (some mp)) (.agg #[.int .i64 va, .int .i64 vb']) true).run Tryd.prog x.w = .ok (.tuple #[.agg #[.int .i64 0, .int .i64 0], .bool false]) x.w := fun x => by
              have := run_lookup2 pairLaw Tryd.underlying114 x.w mp (prs D k) k (va, vb') (.agg #[.int .i64 0, .int .i64 0]) ((x.heap zmp).trans HS10.out.s) (fun W => by kernel_rfl)
              rw [hno] at this
              simpa only [encP, Option.map_none, Option.getD_none, Option.isSome_none] using this
            clear hdup hno
            go_wp2_with fail
            refine RG_begin 12 #[false, false, false, false, false, false, false, false, false, false, false, false] rfl rfl (by kernel_rfl) (fun R hR hacc => ?_)
            refine RG_take (i := 0) (v := ?v15xb1) (some 103) #[true, false, false, false, false, false, false, false, false, false, false, false] rfl rfl (by kernel_rfl) (by kernel_rfl) (by kernel_rfl) rfl rfl (fun x => ?h15xb1) ?n15xb1
            case h15xb1 => (go_simp; try with_reducible rfl)
            try simp only [Act.put, List.setIfInBounds_toArray, List.set_cons_zero, List.set_cons_succ]
            refine RG_take (i := 1) (v := ?v15xb2) (some 104) #[true, true, false, false, false, false, false, false, false, false, false, false] rfl rfl (by kernel_rfl) (by kernel_rfl) (by kernel_rfl) rfl rfl (fun x => ?h15xb2) ?n15xb2
            case h15xb2 => (go_simp; try with_reducible rfl)
            try simp only [Act.put, List.setIfInBounds_toArray, List.set_cons_zero, List.set_cons_succ]
            refine RG_take (i := 2) (v := ?v15xb3) (some 105) #[true, true, true, false, false, false, false, false, false, false, false, false] rfl rfl (by kernel_rfl) (by kernel_rfl) (by kernel_rfl) rfl rfl (fun x => ?h15xb3) ?n15xb3
            case h15xb3 => (go_simp; try with_reducible rfl)
            try simp only [Act.put, List.setIfInBounds_toArray, List.set_cons_zero, List.set_cons_succ]
            refine RG_take (i := 3) (v := ?v15xb4) (some 106) #[true, true, true, true, false, false, false, false, false, false, false, false] rfl rfl (by kernel_rfl) (by kernel_rfl) (by kernel_rfl) rfl rfl (fun x => ?h15xb4) ?n15xb4
            case h15xb4 => (go_simp; try with_reducible rfl)
            try simp only [Act.put, List.setIfInBounds_toArray, List.set_cons_zero, List.set_cons_succ]
            refine RG_take (i := 4) (v := ?v15xb5) (some 107) #[true, true, true, true, true, false, false, false, false, false, false, false] rfl rfl (by kernel_rfl) (by kernel_rfl) (by kernel_rfl) rfl rfl (fun x => ?h15xb5) ?n15xb5
            case h15xb5 => (go_simp; try with_reducible rfl)
            try simp only [Act.put, List.setIfInBounds_toArray, List.set_cons_zero, List.set_cons_succ]
            refine RG_take (i := 5) (v := ?v15xb6) (some 108) #[true, true, true, true, true, true, false, false, false, false, false, false] rfl rfl (by kernel_rfl) (by kernel_rfl) (by kernel_rfl) rfl rfl (fun x => ?h15xb6) ?n15xb6
            case h15xb6 => (go_simp; try with_reducible rfl)
            try simp only [Act.put, List.setIfInBounds_toArray, List.set_cons_zero, List.set_cons_succ]
            refine RG_take (i := 6) (v := ?v15xb7) (some 102) #[true, true, true, true, true, true, true, false, false, false, false, false] rfl rfl (by kernel_rfl) (by kernel_rfl) (by kernel_rfl) rfl rfl (fun x => ?h15xb7) ?n15xb7
            case h15xb7 => (go_simp; try with_reducible rfl)
            try simp only [Act.put, List.setIfInBounds_toArray, List.set_cons_zero, List.set_cons_succ]
            refine RG_take (i := 7) (v := ?v15xb8) (some 109) #[true, true, true, true, true, true, true, true, false, false, false, false] rfl rfl (by kernel_rfl) (by kernel_rfl) (by kernel_rfl) rfl rfl (fun x => ?h15xb8) ?n15xb8
            case h15xb8 => (go_simp; try with_reducible rfl)
            try simp only [Act.put, List.setIfInBounds_toArray, List.set_cons_zero, List.set_cons_succ]
            refine RG_take (i := 8) (v := ?v15xb9) (some 110) #[true, true, true, true, true, true, true, true, true, false, false, false] rfl rfl (by kernel_rfl) (by kernel_rfl) (by kernel_rfl) rfl rfl (fun x => ?h15xb9) ?n15xb9
            case h15xb9 => (go_simp; try with_reducible rfl)
            try simp only [Act.put, List.setIfInBounds_toArray, List.set_cons_zero, List.set_cons_succ]
            refine RG_one (i := 9) #[true, true, true, true, true, true, true, true, true, true, false, false] rfl (by kernel_rfl) rfl rfl (fun K hK => ?_)
            go_wp2_with (fail)
            refine RG_keep hK (by first | exact ((Below.refl _ _).alloc (Nat.le_refl _) _).drew | exact chain hacc hbx | exact hacc.alloc hacc.size _ | exact Below.alloc (by assumption) (by omega) _ | exact hacc | exact hacc.trans (hbx.mono (by have := hacc.size; simp; omega)) | exact (hacc.alloc hacc.size _).trans (hbx.mono (by have := hacc.size; simp; omega)) | exact (hacc.setCell (by first | omega | (simp; done) | (simp; omega)) _).setCell (by first | omega | (simp; done) | (simp; omega)) _ | (repeat (first | (with_reducible exact hacc) | (with_reducible refine Below.setCell ?_ (by first | exact Nat.le_refl _ | omega) _)))) (fun hacc => ?_)
            have hsz := hacc.size
            try simp only [World.size_alloc] at hsz
            clear hK K
            try simp only [Act.put, List.setIfInBounds_toArray, List.set_cons_zero, List.set_cons_succ]
            refine RG_one (i := 10) #[true, true, true, true, true, true, true, true, true, true, true, false] rfl (by kernel_rfl) rfl rfl (fun K hK => ?_)
            go_wp2_with (fail)
            refine RG_keep hK (by first | exact ((Below.refl _ _).alloc (Nat.le_refl _) _).drew | exact chain hacc hbx | exact hacc.alloc hacc.size _ | exact Below.alloc (by assumption) (by omega) _ | exact hacc | exact hacc.trans (hbx.mono (by have := hacc.size; simp; omega)) | exact (hacc.alloc hacc.size _).trans (hbx.mono (by have := hacc.size; simp; omega)) | exact (hacc.setCell (by first | omega | (simp; done) | (simp; omega)) _).setCell (by first | omega | (simp; done) | (simp; omega)) _ | (repeat (first | (with_reducible exact hacc) | (with_reducible refine Below.setCell ?_ (by first | exact Nat.le_refl _ | omega) _)))) (fun hacc => ?_)
            have hsz := hacc.size
            try simp only [World.size_alloc] at hsz
            clear hK K
            try simp only [Act.put, List.setIfInBounds_toArray, List.set_cons_zero, List.set_cons_succ]
            refine RG_take (i := 11) (v := ?v15xb10) (some 14) #[true, true, true, true, true, true, true, true, true, true, true, true] rfl rfl (by kernel_rfl) (by kernel_rfl) (by kernel_rfl) rfl rfl (fun x => ?h15xb10) ?n15xb10
            case h15xb10 => (go_simp; try with_reducible rfl)
            try simp only [Act.put, List.setIfInBounds_toArray, List.set_cons_zero, List.set_cons_succ]
            refine RG_done (by kernel_rfl) ?_
            refine hR _ _ ?_
            have hacc11 := hacc
            generalize World.drew (World.alloc _ _) = W11 at hacc11 ⊢
            have HXB11 := Lib.hid ((hacc11.block xb zx).trans HXB10.out)
            have HPB11 := Lib.hid ((hacc11.block pb zp).trans HPB10.out)
            have HM11 := Lib.hid ((hacc11.block mb zm).trans HM10.out : Blk W11 mb D q tp mp l)
            have HS11 := Lib.hid (At2.below HS10.out hacc11)
            have HV11 := Lib.hid (⟨(hacc11.block vb (lt_of_heap HV10.out.v)).trans HV10.out.v, HV10.out.n, HV10.out.e⟩ : Bools W11 D vb k V)
            have HB11 := Lib.hid (chain HB10.out hacc11)
            clear hacc11 hlk m6 zm p0 p1 zp x2 zx g1 z1 zmp
            have hup := run_update_new pairLaw Tryd.underlying114 W11.drew mp (prs D k) k (va, vb') (.agg #[.int .i64 k, .int .i64 vi]) HS11.out.s HNO.out
            rw [show ({ W11.drew with heap := W11.drew.heap.setIfInBounds mp (.map (ents encP (prs D k ++ [((va, vb'), .agg #[.int .i64 k, .int .i64 vi], k)])) (k + 1)) } : World) = putM W11.drew mp (.map (ents encP (prs D k ++ [((va, vb'), .agg #[.int .i64 k, .int .i64 vi], k)])) (k + 1)) from rfl] at hup
            simp only [encP] at hup
            obtain ⟨W12, hW12⟩ : ∃ W12, putM W11.drew mp (.map (ents encP (prs D k ++ [((va, vb'), .agg #[.int .i64 k, .int .i64 vi], k)])) (k + 1)) = W12 := ⟨_, rfl⟩
            rw [hW12] at hup
            have hU12 : Upd (fun i => i = mp) W11 W12 := by rw [← hW12]; exact (Upd.refl _ W11).drew.trans (putM_upd _ _ _)
            have hM12 : W12.heap[mp]? = some (.map (ents encP (prs D (k + 1))) (k + 1)) := by rw [← hW12, prs_succ, ← HVA.out, ← HVB.out, ← HVI.out]; exact putM_at _ (lt_of_heap HS11.out.s)
            have hmw : mp < w.heap.size := lt_of_heap HP.out
            have hxm : xb ≠ mp := by have := HXM.out; omega
            have m6 := cell_at HM11.out 6
            have zm := lt_of_heap HM11.out
            have p0 := cell_at HPB11.out 0
            have p1 := cell_at HPB11.out 1
            have zp := lt_of_heap HPB11.out
            have x2 := cell_at HXB11.out 2
            have zx := lt_of_heap HXB11.out
            have g1 := cell_at HS11.out.c.m 0
            have z1 := lt_of_heap HS11.out.c.m
            have hc2 := (hU12.block c2 (lt_of_heap HS11.out.c.l) (by have := HS11.out.n2; omega)).trans HS11.out.c.l
            have hvb := (hU12.block vb (lt_of_heap HV11.out.v) (by have := HS11.out.nv; omega)).trans HV11.out.v
            have hxb := (hU12.block xb (lt_of_heap HXB11.out) hxm).trans HXB11.out
            have g2 := cell_at hc2 0
            have y2 := cell_at hxb 2
            have zc2 := lt_of_heap hc2
            have zvb := lt_of_heap hvb
            have zxb := lt_of_heap hxb
            have fvb := free_at hvb j
            have evb := cell_at hvb j
            rw [HV11.out.e j hjn] at evb
            simp only [List.getElem?_toArray, List.getElem?_cons_zero, List.getElem?_cons_succ] at m6 p0 p1 x2 g1 g2 y2
            obtain ⟨W13, hW13⟩ : ∃ W13, W12.setCell ⟨vb, j, none⟩ (.bool true) = W13 := ⟨_, rfl⟩
            have HN13 := Lib.hid (at2_next HS11.out HV11.out hmw hU12 hM12 (by rw [← HVI.out, HJ.out]) hjn HOK.out hW13)
            clear hU12 hM12 hmw hxm hc2 hvb hxb
            go_wp2_with fail
            refine region_tail 9 (by kernel_rfl) (by kernel_rfl) ?_
            simp only [List.take_succ_cons, List.take_zero, List.drop_succ_cons, List.drop_zero]
            repeat (first | still_step)
            refine wpStill_nil ?_
            go_wp2_with fail
            rw [← HPA.out]
            go_roundg (gk - 1)
            case measure => have := HG.out; omega
            case rel => exact ⟨k + 1, by omega, by have := HG.out; omega, by go_num, HOn.out HOK.out, HN13.out⟩
        · have HX := Lib.hid (HO.out 25 (H5.out (by rw [HU.out]; exact hus)) (by decide))
          have e1 : (!(u.toList == (s1 ++ s2).toList)) = true := by rw [beq_texts, decide_eq_false hus]; rfl
          clear hus
          go_wp2_with fail
          refine region_calm (by kernel_rfl) (by kernel_rfl) ?_
          repeat (quiet_step ((fail)))
          refine wpQuiet_nil ?_
          rintro _ ⟨x, rfl⟩
          go_wp2
          go_ret2
          rw [HX.out]
          exact ⟨rfl, fun h => absurd h (by simp), HS.out.u.later (Later.chain HB9.out x)⟩
    · have hkn : k = D.nm := by omega
      subst hkn
      have HX := Lib.hid (fb_end hfb)
      clear hfb
      go_wp2
      go_ret2
      rw [HX.out]
      exact ⟨rfl, fun _ => HS.out.s, HS.out.u⟩
end Go.Proofs.YtkjkgpdfhmoenaaDoor.MoPairs
