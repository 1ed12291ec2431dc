/-
  (*Model).words: what is wrong with the words; the longest.
-/
import Derived.Test.YtendkmldecoogaaDoorMo
import Derived.Test.YtendkmldecoogaaDoorMapStr
namespace Go.Proofs.YtendkmldecoogaaDoor.MoWords
open Go Go.RowKit Go.Proofs.YtendkmldecoogaaDoor.Kit Go.Proofs.YtendkmldecoogaaDoor.Maps Go.Proofs.YtendkmldecoogaaDoor.SpFns Go.Proofs.YtendkmldecoogaaDoor.Dt Go.Proofs.YtendkmldecoogaaDoor.Mo
attribute [local irreducible] wpQuiet

/-- The longest of 1 and the first k words. -/
def lg (D : Dt) : Nat → Nat
  | 0 => 1
  | k + 1 => max (lg D k) (D.W k).size

def seen (D : Dt) (k : Nat) : List (ByteArray × Value × Nat) := (List.range k).map fun j => (D.W j, .int .i64 j, j)
theorem seen_succ (D : Dt) (k : Nat) : seen D (k + 1) = seen D k ++ [(D.W k, .int .i64 k, k)] := by simp [seen, List.range_succ]
theorem mem_seen (D : Dt) (k : Nat) (s : ByteArray) : s ∈ (seen D k).map (·.1) ↔ ∃ j, j < k ∧ D.W j = s := by simp [seen]
theorem seen_yes {D : Dt} {k : Nat} {s : ByteArray} (h : ∃ j, j < k ∧ D.W j = s) : ∃ n v, lk s (seen D k) 0 = some (n, v) := by
  cases hl : lk s (seen D k) 0 with
  | none => exact absurd ((mem_seen D k s).2 h) (lk_none.1 hl)
  | some x => exact ⟨x.1, x.2, rfl⟩
theorem seen_no {D : Dt} {k : Nat} {s : ByteArray} (h : ¬ ∃ j, j < k ∧ D.W j = s) : lk s (seen D k) 0 = none := lk_none.2 (fun hm => h ((mem_seen D k s).1 hm))

def Said (D : Dt) (q : Pl) (mb : Nat) (tp : Value) (mp : Nat) (w : World) (x : Ending) (w' : World) : Prop :=
  x = .returned (.tuple #[.int .i64 (fb (badW D) D.nw 0).1, .int .i64 (fb (badW D) D.nw 0).2]) ∧ (∃ l : Int, Blk w' mb D q tp mp l ∧ ((fb (badW D) D.nw 0).2 = 0 → l = lg D D.nw)) ∧ Upd (fun i => i = mb) w w'

/-- Where the loop stands. -/
structure At1 (w wr : World) (D : Dt) (q : Pl) (mb sb k : Nat) (tp : Value) (mp : Nat) : Prop where
  m : Blk wr mb D q tp mp (lg D k)
  s : wr.heap[sb]? = some (.map (ents MapStr.encK (seen D k)) k)
  r : WRow wr q.a0 D.nw D.W
  new : w.heap.size ≤ sb
  u : Upd (fun i => i = mb) w wr

set_option maxHeartbeats 1000000 in
set_option maxRecDepth 100000 in
theorem words_calls (w : World) (mb : Nat) (D : Dt) (q : Pl) (tp : Value) (mp : Nat) (h : Blk w mb D q tp mp 1) (hA : WRow w q.a0 D.nw D.W) (hne : ∀ x, q.a0 = some x → x.block ≠ mb) (hn : D.nw ≤ 4096) :
    Calls Tryd.prog 97 #[.pointer (some ⟨mb, 0, none⟩)] w (Said D q mb tp mp w) := by
  unfold Said
  obtain ⟨R, hR⟩ : ∃ R, fb (badW D) D.nw 0 = R := ⟨_, rfl⟩
  rw [hR]
  have HR := Lib.hid hR
  clear hR
  have c0 := cell_at h 0
  have z := lt_of_heap h
  simp only [List.getElem?_toArray, List.getElem?_cons_zero] at c0
  obtain ⟨W1, hW1⟩ : ∃ W1, w.alloc (.map #[] 0) = W1 := ⟨_, rfl⟩
  have hB1 : Below w.heap.size w W1 := by rw [← hW1]; exact (Below.refl _ _).alloc (Nat.le_refl _) _
  have hs1 : W1.heap[w.heap.size]? = some (.map (ents MapStr.encK (seen D 0)) 0) := by rw [← hW1]; exact alloc_new rfl
  obtain ⟨sb, hsb⟩ : ∃ sb, w.heap.size = sb := ⟨_, rfl⟩
  have HS1 := Lib.hid (⟨(hB1.block mb z).trans h, hsb ▸ hs1, hA.keep hB1.size (fun _ _ hx => hB1.block _ hx), Nat.le_of_eq hsb, .of_below hB1⟩ : At1 w W1 D q mb sb 0 tp mp)
  have c1 := cell_at HS1.out.m 0
  simp only [List.getElem?_toArray, List.getElem?_cons_zero] at c1
  have z1 := lt_of_heap HS1.out.m
  have HNE := Lib.hid hne
  have HZ := Lib.hid z
  have HA := Lib.hid hA
  clear h hA hne hs1 hB1
  have hmm := @run_makeMap Tryd.prog
  go_enter Tryd.func97, Tryd.ntmps97
  go_wp2_with fail
  clear hmm hW1 hsb c0 c1 z z1
  go_loopg [16] D.nw (fun g s16 wr => ∃ k : Nat, k ≤ D.nw ∧ g = D.nw - k ∧ s16 = .int .i64 k ∧ fb (badW D) (D.nw - k) k = R ∧ At1 w wr D q mb sb k tp mp)
  case atStart => exact ⟨0, Nat.zero_le _, by omega, rfl, HR.out, HS1.out⟩
  case round =>
    obtain ⟨k, hk, hg, rfl, hfb, hS⟩ := hrel
    have HG := Lib.hid hg
    have HS := Lib.hid hS
    clear hg hS
    by_cases hlt : k < D.nw
    · have HO := Lib.hid (fun e (h1 : badW D k = e) (h2 : e ≠ 0) => fb_stop hfb hlt h1 h2)
      have HOn := Lib.hid (fun (h1 : badW D k = 0) => fb_on hfb hlt h1)
      clear hfb
      obtain ⟨b, off, hpa, hbl, hc⟩ := HS.out.r.at hlt
      have cw := hc k hlt
      have hbm : b ≠ mb := HNE.out _ hpa
      obtain ⟨s, hs⟩ : ∃ s, D.W k = s := ⟨_, rfl⟩
      rw [hs] at cw
      have HSK := Lib.hid hs
      have hki : (k : Int) < D.nw := by omega
      clear hc hs
      by_cases h2 : s.size < 2
      · have HX := Lib.hid (HO.out 21 (by unfold badW; rw [HSK.out, if_pos (by omega)]) (by decide))
        have h2i : (s.size : Int) < 2 := by omega
        rw [hpa]
        go_wp2
        go_ret2
        rw [HX.out]
        exact ⟨rfl, ⟨_, HS.out.m, fun h => absurd h (by simp)⟩, HS.out.u⟩
      by_cases h3 : 256 < s.size
      · have HX := Lib.hid (HO.out 21 (by unfold badW; rw [HSK.out, if_pos (by omega)]) (by decide))
        have h2i : ¬ ((s.size : Int) < 2) := by omega
        have h3i : (256 : Int) < s.size := by omega
        rw [hpa]
        go_wp2
        go_ret2
        rw [HX.out]
        exact ⟨rfl, ⟨_, HS.out.m, fun h => absurd h (by simp)⟩, HS.out.u⟩
      have h2i : ¬ ((s.size : Int) < 2) := by omega
      have h3i : ¬ ((256 : Int) < s.size) := by omega
      by_cases h4 : ∃ j, j < k ∧ D.W j = s
      · have HX := Lib.hid (HO.out 22 (by unfold badW; rw [HSK.out, if_neg (by omega), if_pos h4]) (by decide))
        obtain ⟨n, v, hl⟩ := seen_yes h4
        have hlk := run_lookup2 (MapStr.keyLaw) Tryd.underlying202 wr sb (seen D k) k s (.int .i64 0) HS.out.s (fun W => by kernel_rfl)
        rw [hl] at hlk
        simp only [MapStr.encK, Option.map_some, Option.getD_some, Option.isSome_some] at hlk
        clear hl h4
        rw [hpa]
        go_wp2
        go_ret2
        rw [HX.out]
        exact ⟨rfl, ⟨_, HS.out.m, fun h => absurd h (by simp)⟩, HS.out.u⟩
      · have HX := Lib.hid (HOn.out (by unfold badW; rw [HSK.out, if_neg (by omega), if_neg h4]))
        have hno := seen_no h4
        have hlk := run_lookup2 (MapStr.keyLaw) Tryd.underlying202 wr sb (seen D k) k s (.int .i64 0) HS.out.s (fun W => by kernel_rfl)
        rw [hno] at hlk
        simp only [MapStr.encK, Option.map_none, Option.getD_none, Option.isSome_none] at hlk
        have hup := run_update_new (MapStr.keyLaw) Tryd.underlying202 wr sb (seen D k) k s (.int .i64 k) HS.out.s hno
        rw [show ({ wr with heap := wr.heap.setIfInBounds sb (.map (ents MapStr.encK (seen D k ++ [(s, .int .i64 (k : Int), k)])) (k + 1)) } : World) = putM wr sb (.map (ents MapStr.encK (seen D k ++ [(s, .int .i64 (k : Int), k)])) (k + 1)) from rfl] at hup
        simp only [MapStr.encK] at hup
        obtain ⟨W4, hW4⟩ : ∃ W4, putM wr sb (.map (ents MapStr.encK (seen D k ++ [(s, .int .i64 (k : Int), k)])) (k + 1)) = W4 := ⟨_, rfl⟩
        have hU4 : Upd (fun i => i = sb) wr W4 := by rw [← hW4]; exact putM_upd _ _ _
        have hS4 : W4.heap[sb]? = some (.map (ents MapStr.encK (seen D (k + 1))) (k + 1)) := by
          rw [← hW4, seen_succ, HSK.out]; exact putM_at _ (lt_of_heap HS.out.s)
        have hmsb : mb ≠ sb := by have := HZ.out; have := HS.out.new; omega
        have hM4 : Blk W4 mb D q tp mp (lg D k) := (hU4.block mb (lt_of_heap HS.out.m) hmsb).trans HS.out.m
        have HS4 := Lib.hid hS4
        have HU4 := Lib.hid hU4
        have HM4 := Lib.hid hM4
        have d7 := cell_at hM4 7
        have f7 := free_at hM4 7
        have z4 := lt_of_heap hM4
        simp only [List.getElem?_toArray, List.getElem?_cons_zero, List.getElem?_cons_succ] at d7
        obtain ⟨l, hl⟩ : ∃ l, lg D k = l := ⟨_, rfl⟩
        rw [hl] at d7
        have HLK := Lib.hid hl
        clear hno hS4 hU4 hM4 hl
        rw [hpa]
        have HPA := Lib.hid hpa
        clear hpa hlt
        have nxt : ∀ (m : Nat) (W5 : World), m = max l s.size → W4.setCell ⟨mb, 7, none⟩ (.int .i64 (m : Int)) = W5 → At1 w W5 D q mb sb (k + 1) tp mp := by
          intro m W5 hm h5
          have hU5 : Upd (fun i => i = mb) W4 W5 := by rw [← h5]; exact Upd.setCell (S := fun i => i = mb) (p := ⟨mb, 7, none⟩) (Upd.refl _ _) (fun _ => rfl) _
          have hz := HZ.out
          have hnew := HS.out.new
          have hall : Upd (fun i => i = mb ∨ i = sb) w W5 := ((HS.out.u.mono (fun _ _ h => .inl h)).trans (HU4.out.mono (fun _ _ h => .inr h))).trans (hU5.mono (fun _ _ h => .inl h))
          have hu : Upd (fun i => i = mb) w W5 := hall.mono (fun i hi h => h.elim id (fun h => by omega))
          refine ⟨?_, (hU5.block sb (lt_of_heap HS4.out) (Ne.symm hmsb)).trans HS4.out, HA.out.keep hu.size (fun x hx hl => hu.block _ hl (HNE.out x hx)), hnew, hu⟩
          unfold Blk
          rw [← h5, heap_set HM4.out]
          have : lg D (k + 1) = m := by rw [hm]; unfold lg; rw [HLK.out, HSK.out]
          rw [this]
          rfl
        have NXT := Lib.hid nxt
        clear nxt
        rcases Int.lt_or_le (l : Int) s.size with hmx | hmx
        · go_wp2_with fail
          rw [← HPA.out]
          go_roundg (gk - 1)
          case measure => have := HG.out; omega
          case rel => exact ⟨k + 1, by omega, by have := HG.out; omega, by go_num, HX.out, NXT.out s.size _ (by omega) rfl⟩
        · go_wp2_with fail
          rw [← HPA.out]
          go_roundg (gk - 1)
          case measure => have := HG.out; omega
          case rel => exact ⟨k + 1, by omega, by have := HG.out; omega, by go_num, HX.out, NXT.out l _ (by omega) rfl⟩
    · have hkn : k = D.nw := by omega
      subst hkn
      have HX := Lib.hid (fb_end hfb)
      clear hfb
      go_wp2
      go_ret2
      rw [HX.out]
      exact ⟨rfl, ⟨_, HS.out.m, fun _ => rfl⟩, HS.out.u⟩
end Go.Proofs.YtendkmldecoogaaDoor.MoWords
