/-
  lru: New, Len, Keys (keys: texts).
-/
import Derived.Test.YtgddlcbaieclcaaLruputS
import Derived.Laws.AppendOwn
namespace Go.Proofs.Ytgddlcbaieclcaa.LrukeysS
open Go Go.RowKit Go.Proofs.Ytgddlcbaieclcaa.Kit Go.Proofs.Ytgddlcbaieclcaa.Maps Go.Proofs.Ytgddlcbaieclcaa.LruS Go.Proofs.Ytgddlcbaieclcaa.LrucoreS Go.Proofs.Ytgddlcbaieclcaa.LrugetS Go.Proofs.Ytgddlcbaieclcaa.LruputS
attribute [local irreducible] wpQuiet

def NewP (n : Nat) (w : World) (x : Ending) (w' : World) : Prop :=
  ∃ c mb, x = .returned (.tuple #[.pointer (some ⟨c, 0, none⟩), .int .i64 0]) ∧ LRU w' c mb n [] [] 0 ∧ w.heap.size ≤ c ∧ w.heap.size ≤ mb ∧ Below w.heap.size w w'

set_option maxRecDepth 100000 in
theorem New_calls (n : Int) (w : World) (h0 : 0 ≤ n) (h1 : n ≤ 4096) :
    Calls Try.prog 36 #[.int .i64 n] w (NewP n.toNat w) := by
  have hmm := @run_makeMap Try.prog
  have h2 : ¬ n < 0 := by omega
  have h3 : ¬ 4096 < n := by omega
  go_enter Try.func36, Try.ntmps36
  go_wp2
  go_ret2
  refine ⟨w.heap.size + 1, w.heap.size, rfl, ⟨?_, ?_, trivial, by simp, by simp, List.Perm.nil⟩, by omega, by omega, ((Below.refl _ _).alloc (Nat.le_refl _) _).alloc (by simp) _⟩
  · rw [alloc_new (by simp)]
    simp only [hd, lst, at', Int.toNat_of_nonneg h0]
  · rw [alloc_old (by simp), alloc_new rfl]
    rfl

set_option maxRecDepth 100000 in
theorem New_no (n : Int) (w : World) (h : n < 0 ∨ 4096 < n) :
    Calls Try.prog 36 #[.int .i64 n] w fun x w' => x = .returned (.tuple #[.pointer none, .int .i64 1]) ∧ w = w' := by
  rcases h with h | h
  · go_enter Try.func36, Try.ntmps36
    go_wp2
    go_ret2
    exact ⟨rfl, rfl⟩
  · have h2 : ¬ n < 0 := by omega
    go_enter Try.func36, Try.ntmps36
    go_wp2
    go_ret2
    exact ⟨rfl, rfl⟩

set_option maxRecDepth 100000 in
theorem Len_calls (c mb most cnt : Nat) (L : List En) (M : List (Ky × Value × Nat)) (w : World) (h : LRU w c mb most L M cnt) :
    Calls Try.prog 39 #[.pointer (some ⟨c, 0, none⟩)] w fun x w' => x = .returned (.int .i64 L.length) ∧ w = w' := by
  have hlen := LRU_len h
  have c1 := cell_at h.cache 1
  simp only [List.getElem?_toArray, List.getElem?_cons_zero, List.getElem?_cons_succ] at c1
  have hml : (Builtin.len_ #[124] 3 #[.map (some mb)]).run Try.prog w = .ok (.int .i64 L.length) w := by
    rw [run_len_map w _ _ mb _ cnt (by kernel_rfl) h.map, hlen]
    rfl
  clear hlen h
  go_enter Try.func39, Try.ntmps39
  go_wp2
  go_ret
  exact ⟨rfl, rfl⟩

/-- The cells of keys, one behind the other. -/
def flat (L : List En) : List Value := L.flatMap fun e => let k := e.1; [.string k]
theorem flat_snoc (L : List En) (e : En) : flat (L ++ [e]) = flat L ++ (let k := e.1; [.string k]) := by simp [flat]

theorem infoK : (Try.prog.info? 9).map (fun i => (i.zero, i.size, i.bytes)) = some (some (.string ByteArray.empty), 1, 16) := by kernel_rfl

theorem news_at {w : World} {l : List Value} {t : TypeId} {a : Addr} (ha : a = ⟨w.heap.size, 0, none⟩) : ∀ j u, l[j]? = some u → (w.alloc (.cells l.toArray t)).cell? (a.add j) = some u := by
  intro j u hu
  subst ha
  rw [add_plain, cell_at (alloc_new rfl)]
  simpa using hu

theorem grow_below {w0 wr w1 : World} {v : Value} {o : Obj} {t : TypeId} {size n : Nat} {xs : List Value} (hb : Below w0.heap.size w0 wr) (hown : wr.ownsRow w0.heap.size t size v n xs) (hg : (wr.alloc o).grownBy w1 v.ownBlock) : Below w0.heap.size w0 w1 := by
  refine ⟨hg.os.trans hb.os, hg.tape.trans hb.tape, hg.output.trans hb.output, ?_, fun k hk => ?_⟩
  · have h1 := hb.size
    have h2 := hg.size
    simp at h2
    omega
  · have h1 := hb.size
    rw [hg.block k (by simp; omega) (fun e => by have := (hown.lt k e.symm).1; omega), alloc_old (by omega), hb.block k hk]

def KeysP (L : List En) (w : World) (x : Ending) (w' : World) : Prop := ∃ v, x = .returned v ∧ w'.ownsRow w.heap.size 9 1 v L.length (flat L) ∧ Below w.heap.size w w'

set_option maxHeartbeats 1000000 in
set_option maxRecDepth 100000 in
theorem Keys_calls (c mb most cnt : Nat) (L : List En) (M : List (Ky × Value × Nat)) (w : World) (h : LRU w c mb most L M cnt) (hlen : L.length ≤ 4096) :
    Calls Try.prog 73 #[.pointer (some ⟨c, 0, none⟩)] w (KeysP L w) := by
  have c2 := cell_at h.cache 2
  have zc := lt_of_heap h.cache
  simp only [List.getElem?_toArray, List.getElem?_cons_zero, List.getElem?_cons_succ] at c2
  have H := Lib.hid h
  clear h
  obtain ⟨p0, hp0⟩ : ∃ p, p = at' (hd L none) := ⟨_, rfl⟩
  rw [← hp0] at c2
  have HP0 := Lib.hid hp0
  clear hp0
  obtain ⟨i0, hi, hz0, hz1, hz2⟩ := info_parts infoK
  go_enter Try.func73, Try.ntmps73
  go_wp2_with fail
  go_loopg [3, 4] L.length (fun g s3 s4 wr => ∃ done rest, L = done ++ rest ∧ g = rest.length ∧ s4 = at' (hd rest none) ∧ wr.ownsRow w.heap.size 9 1 s3 done.length (flat done) ∧ Below w.heap.size w wr)
  case atStart => exact ⟨[], L, rfl, rfl, HP0.out, World.ownsRow_nil _ _ _ _, Below.refl _ _⟩
  case round =>
    obtain ⟨done, rest, hL, hg, rfl, hown, hb⟩ := hrel
    have HG := Lib.hid hg
    have HLL := Lib.hid hL
    have HB := Lib.hid hb
    clear hg hL hb
    cases rest with
    | nil =>
      simp only [hd, at']
      go_wp2
      go_ret
      have hL := HLL.out
      simp only [List.append_nil] at hL
      subst hL
      exact ⟨_, rfl, hown, HB.out⟩
    | cons e rest =>
      simp only [hd, at']
      have hseg := H.out.seg
      rw [HLL.out] at hseg
      have hblk0 := ((seg_append w done (e :: rest) none none).1 hseg).2.1
      have zb0 := lt_of_heap hblk0
      have hblk := (HB.out.block _ zb0).trans hblk0
      have k0 := cell_at hblk 0
      have e3 := cell_at hblk 3
      have e3w := cell_at hblk0 3
      have zb := lt_of_heap hblk
      simp only [entC, List.getElem?_toArray, List.getElem?_cons_zero, List.getElem?_cons_succ] at k0 e3 e3w
      obtain ⟨p1, hp1⟩ : ∃ p, p = at' (hd rest none) := ⟨_, rfl⟩
      rw [← hp1] at e3 e3w
      have HP1 := Lib.hid hp1
      have hlen2 : done.length + 1 ≤ 4096 := by have := congrArg List.length HLL.out; simp at this; omega
      clear hp1 hseg hblk hblk0
      go_wp2_with (at_builtin; refine wpList_append_own _ rfl _ _ 104 rfl w.heap.size 9 i0 (.string ByteArray.empty) 1 16 Try.underlying104 hi hz0 hz1 hz2 rfl (by decide) _ _ _ rfl (hown.alloc _) ⟨wr.heap.size, 0, none⟩ 1 1 [.string e.1] rfl rfl (news_at rfl) (by simp [Value.oneCell']) (by unfold maxLen; omega) (by omega) (by have := HB.out.size; simp; omega) ?_; intro v' w1 hown' hgrow _; have hb1 := grow_below HB.out hown hgrow; have e4 := (hb1.cell (p := ⟨e.2.2, 3, none⟩) zb0).trans e3w; have zb1 := Nat.lt_of_lt_of_le zb0 hb1.size; have HB1 := Lib.hid hb1; clear hb1 hgrow)
      go_roundg rest.length
      case measure => have := HG.out; simp at this; omega
      case rel => exact ⟨done ++ [e], rest, by rw [HLL.out]; simp, rfl, HP1.out, by rw [flat_snoc, List.length_append]; exact hown', HB1.out⟩
end Go.Proofs.Ytgddlcbaieclcaa.LrukeysS
