/-
  tesserabook.Book of lists of numbers: Keep.
-/
import Derived.Test.YtkjkgpdfhmoenaaDoorSameInt
import Derived.Test.YtkjkgpdfhmoenaaDoorCollect
import Derived.Test.YtkjkgpdfhmoenaaDoorRgu
namespace Go.Proofs.YtkjkgpdfhmoenaaDoor.BookInt
open Go Go.RowKit Go.Proofs.YtkjkgpdfhmoenaaDoor.Kit Go.Proofs.YtkjkgpdfhmoenaaDoor.Round Go.Proofs.YtkjkgpdfhmoenaaDoor.Seg Go.Proofs.YtkjkgpdfhmoenaaDoor.Collect Go.Proofs.YtkjkgpdfhmoenaaDoor.SameInt
attribute [local irreducible] wpQuiet

/-- Cells of n elements. -/
def Shaped (n : Nat) (xs : List Value) : Prop := (∀ i, i < n → ∃ x, xs[i]? = some (.int .i64 x)) ∧ ∀ u, u ∈ xs → u.oneCell' = true
def num : Option Value → Int
  | some (.int _ x) => x
  | _ => 0
def text : Option Value → ByteArray
  | some (.string s) => s
  | _ => ByteArray.empty
def f0 (xs : List Value) (i : Nat) : Int := num xs[i]?
theorem row_of {w : World} {base n : Nat} {xs : List Value} {a : Option Addr} {c : Nat} (h : Seg w base 3 1 (.slice a n c) n xs) (hs : Shaped n xs) : Row w a n (f0 xs) := by
  rcases Nat.eq_zero_or_pos n with h0 | h0
  · exact .inl h0
  · obtain ⟨g, o, rfl, _, hg, hc⟩ := h.cells h0
    refine .inr ⟨g, o, rfl, hg, fun i hi => ?_⟩
    obtain ⟨x, h0⟩ := hs.1 i hi
    exact by have := hc _ _ h0; unfold f0; rw [h0]; exact this

/-- A list that was kept: the slice, its copy, what both hold. -/
structure Rec where
  v : Value
  u : Value
  n : Nat
  xs : List Value

/-- A book: all that it holds was made since base. -/
structure Bk (W : World) (base bb : Nat) (L : List Rec) (lv wv : Value) (held : Int) : Prop where
  lo : base ≤ bb
  bk : W.heap[bb]? = some (.cells #[lv, wv, .int .i64 held, .bool false] 75 (0, 0))
  ll : Seg W base 33 1 lv L.length (L.map (·.v))
  wl : Seg W base 33 1 wv L.length (L.map (·.u))
  lw : ∀ b, lv.ownBlock = some b → wv.ownBlock ≠ some b
  vs : ∀ r, r ∈ L → Seg W base 3 1 r.v r.n r.xs ∧ Seg W base 3 1 r.u r.n r.xs ∧ Shaped r.n r.xs ∧ r.n ≤ 1000000000
  ds : L.Pairwise fun r q => ∀ b, r.v.ownBlock = some b → q.v.ownBlock ≠ some b

theorem seg_block {w : World} {base : Nat} {e : TypeId} {sz : Nat} {v : Value} {n : Nat} {xs : List Value} (h : Seg w base e sz v n xs) {b : Nat} (hb : v.ownBlock = some b) : ∃ c, w.heap[b]? = some (.cells c e (0, 0)) := by
  rcases h.at' with ⟨rfl, _⟩ | ⟨g, o, cap, cur, rfl, _, hg, _⟩
  · cases hb
  · simp only [Value.ownBlock, Option.some.injEq] at hb
    subst hb
    exact ⟨_, hg⟩

/-- What was changed has other types. -/
theorem Bk.upd {W W' : World} {base bb : Nat} {L : List Rec} {lv wv : Value} {held : Int} {S : Nat → Prop} (h : Bk W base bb L lv wv held) (hu : Upd S W W')
    (hn : ∀ b c ty, S b → W.heap[b]? = some (.cells c ty (0, 0)) → ty ≠ 3 ∧ ty ≠ 33 ∧ ty ≠ 75) : Bk W' base bb L lv wv held := by
  have k1 : ∀ {e : TypeId} {sz : Nat} {v : Value} {n : Nat} {xs : List Value}, (e = 3 ∨ e = 33) → Seg W base e sz v n xs → Seg W' base e sz v n xs := fun he h => h.upd hu fun b hb hS => by
    obtain ⟨c, hc⟩ := seg_block h hb
    obtain ⟨n1, n2, _⟩ := hn b c _ hS hc
    rcases he with he | he
    · exact n1 he
    · exact n2 he
  exact ⟨h.lo, (hu.block bb (lt_of_heap h.bk) (fun hS => (hn bb _ _ hS h.bk).2.2 rfl)).trans h.bk, k1 (.inr rfl) h.ll, k1 (.inr rfl) h.wl, h.lw, fun r hr => ⟨k1 (.inl rfl) (h.vs r hr).1, k1 (.inl rfl) (h.vs r hr).2.1, (h.vs r hr).2.2⟩, h.ds⟩
theorem Bk.below {W W' : World} {base bb : Nat} {L : List Rec} {lv wv : Value} {held : Int} (h : Bk W base bb L lv wv held) (hb : Below W.heap.size W W') : Bk W' base bb L lv wv held :=
  h.upd (S := fun _ => False) (Upd.of_below hb) (fun _ _ _ h => h.elim)

/-- What a change by a book's words may change. -/
def Mine (W : World) (base bb : Nat) (b : Nat) : Prop := base ≤ b ∧ (b = bb ∨ ∃ c, W.heap[b]? = some (.cells c 33 (0, 0)))

theorem seg_mine {W W' : World} {base bb n : Nat} {v : Value} {xs : List Value} {cs : Array Value} (h : Seg W base 3 1 v n xs) (hb : W.heap[bb]? = some (.cells cs 75 (0, 0))) (hu : Upd (fun b => b = bb ∨ ∃ c, W.heap[b]? = some (.cells c 33 (0, 0))) W W') : Seg W' base 3 1 v n xs :=
  h.upd hu fun b hv hS => by
    obtain ⟨c, hc⟩ := seg_block h hv
    rcases hS with rfl | ⟨c', hc'⟩
    · rw [hb] at hc; simp at hc
    · rw [hc'] at hc; simp at hc

theorem elemL : Elem Tryd.prog 73 33 (.slice none 0 0) 1 24 := ⟨Tryd.underlying73, by kernel_rfl, rfl, by decide⟩
theorem elemE : Elem Tryd.prog 33 3 (.int .i64 0) 1 8 := ⟨Tryd.underlying33, by kernel_rfl, rfl, by decide⟩

theorem cell_of {w : World} {g o n cap : Nat} {base : Nat} {e : TypeId} {xs : List Value} (h : Seg w base e 1 (.slice (some ⟨g, o, none⟩) n cap) n xs) {j : Nat} {u : Value} (hn : 0 < n) (hj : xs[j]? = some u) : w.cell? ⟨g, o + j, none⟩ = some u := by
  obtain ⟨g', o', h1, _, _, h2⟩ := h.cells hn
  simp only [Option.some.injEq, Addr.mk.injEq, and_true] at h1
  obtain ⟨rfl, rfl⟩ := h1
  exact h2 j u hj

theorem no_own {w : World} {base : Nat} {e t : TypeId} {sz n bb : Nat} {v : Value} {xs : List Value} {cs : Array Value} {fr : Nat × Nat} (h : Seg w base e sz v n xs) (hb : w.heap[bb]? = some (.cells cs t fr)) (he : e ≠ t) : ¬ v.ownBlock = some bb := fun hh => by
  obtain ⟨c, hc⟩ := seg_block h hh
  rw [hb] at hc
  simp only [Option.some.injEq, Obj.cells.injEq] at hc
  exact he hc.2.1.symm

/-- A book whose own cells alone were written, of some of its lists. -/
theorem Bk.turn {W W' : World} {base bb : Nat} {L L' : List Rec} {lv wv lv' wv' : Value} {held held' : Int} (h : Bk W base bb L lv wv held) (hu : Upd (fun b => b = bb) W W')
    (hb : W'.heap[bb]? = some (.cells #[lv', wv', .int .i64 held', .bool false] 75 (0, 0))) (hl : Seg W base 33 1 lv' L'.length (L'.map (·.v))) (hw : Seg W base 33 1 wv' L'.length (L'.map (·.u)))
    (hlw : ∀ b, lv'.ownBlock = some b → wv'.ownBlock ≠ some b) (hs : ∀ r, r ∈ L' → r ∈ L) (hd : L'.Pairwise fun r q => ∀ b, r.v.ownBlock = some b → q.v.ownBlock ≠ some b) : Bk W' base bb L' lv' wv' held' := by
  have k : ∀ {e : TypeId} {sz : Nat} {v : Value} {n : Nat} {xs : List Value}, e ≠ 75 → Seg W base e sz v n xs → Seg W' base e sz v n xs := fun he hh => hh.upd hu fun b hv hS => by
    subst hS
    exact no_own hh h.bk he hv
  exact ⟨h.lo, hb, k (by decide) hl, k (by decide) hw, hlw, fun r hr => ⟨k (by decide) (h.vs r (hs r hr)).1, k (by decide) (h.vs r (hs r hr)).2.1, (h.vs r (hs r hr)).2.2⟩, hd⟩


/-- What Keep leaves. -/
def Kp (W : World) (base bb : Nat) (L : List Rec) (v : Value) (W' : World) : Prop :=
  ∃ L' lv' wv' held', Bk W' base bb L' lv' wv' held' ∧ (∀ r, r ∈ L' → r ∈ L ∨ r.v = v) ∧ L'.length ≤ L.length + 1 ∧ Upd (Mine W base bb) W W'

set_option linter.unusedSimpArgs false in
set_option maxHeartbeats 4000000 in
set_option maxRecDepth 100000 in
theorem Keep_calls (bb base : Nat) (L : List Rec) (lv wv : Value) (held : Int) (v : Value) (n : Nat) (xs : List Value) (W : World) (h : Bk W base bb L lv wv held) (hv : Seg W base 3 1 v n xs) (hs : Shaped n xs) (hn : n ≤ 1000000000)
    (hnew : ∀ r, r ∈ L → ∀ b, r.v.ownBlock = some b → v.ownBlock ≠ some b) (hL : L.length ≤ 10000000) (hbase : base ≤ W.heap.size) :
    Calls Tryd.prog 36 #[.pointer (some ⟨bb, 0, none⟩), v] W fun e W' => (∃ z, e = .returned z) ∧ Kp W base bb L v W' := by
  have HK := Lib.hid h
  have HV := Lib.hid hv
  have HBB := Lib.hid h.bk
  obtain ⟨av, cv, rfl, hcv1, hcv2, hav⟩ := hv.shape
  obtain ⟨al, cl, rfl, hcl1, hcl2, hal⟩ := h.ll.shape
  obtain ⟨aw, cw, rfl, hcw1, hcw2, haw⟩ := h.wl.shape
  clear h hv
  obtain ⟨W1, hW1⟩ : ∃ Xz, W.alloc (.cells #[.slice av n cv] 33) = Xz := ⟨_, rfl⟩
  obtain ⟨bn, hbn⟩ : ∃ xz, W.heap.size = xz := ⟨_, rfl⟩
  have hb1 : Below W.heap.size W W1 := by rw [← hW1]; exact (Below.refl _ _).alloc (Nat.le_refl _) _
  have HN := Lib.hid (by rw [← hW1, ← hbn]; exact alloc_new rfl : W1.heap[bn]? = some (.cells #[.slice av n cv] 33 (0, 0)))
  have EW1 := Lib.hid hW1
  have Ebn := Lib.hid hbn
  clear hW1 hbn
  obtain ⟨i1, hi1, hz0, hz1, hz2⟩ := elemL.parts
  obtain ⟨i2, hi2, ez0, ez1, ez2⟩ := elemE.parts
  have hsrc1 : Src W1 (.slice (some ⟨bn, 0, none⟩) 1 1) 1 [.slice av n cv] := by
    refine ⟨some ⟨bn, 0, none⟩, 1, rfl, (fun h => by cases h), fun ad had j u hu => ?_⟩
    cases had
    rw [add_plain, cell_at HN.out]
    simpa using hu
  obtain ⟨lv1, A1, hr1, ha1, _⟩ := run_append_seg (P := Tryd.prog) W1 base 73 73 33 i1 _ 1 24 elemL.t hi1 hz0 hz1 hz2 elemL.z elemL.p (.slice al L.length cl) L.length (L.map (·.v)) (HK.out.ll.below hb1) (.slice (some ⟨bn, 0, none⟩) 1 1) 1 [.slice av n cv] (by rfl) hsrc1 (by simp [Value.oneCell']) (by unfold maxLen; omega) (by omega) (by have := hb1.size; omega)
  rw [← EW1.out, ← Ebn.out] at hr1
  have hnb := no_own HK.out.ll HBB.out (by decide)
  obtain ⟨al1, cl1, rfl, hl1, hl2, _⟩ := ha1.seg.shape
  have HRUN := Lib.hid hr1
  have HAP := Lib.hid ha1
  have HW1 := Lib.hid hb1
  have HBB := Lib.hid ((hb1.block _ (lt_of_heap HBB.out)).trans HBB.out)
  have HBA := Lib.hid (Upd.mem ha1.u HBB.out hnb)
  clear hr1 ha1 hsrc1 hb1 HBB
  obtain ⟨W2, hW2⟩ : ∃ z, A1.setCell ⟨bb, 0, none⟩ (.slice al1 (L.length + 1) cl1) = z := ⟨_, rfl⟩
  have hu2 : Upd (fun b => b = bb) A1 W2 := by rw [← hW2]; exact Upd.setCell (S := fun b => b = bb) (p := ⟨bb, 0, none⟩) (Upd.refl _ _) (fun _ => rfl) _
  have HB2 := Lib.hid (by rw [← hW2, heap_set HBA.out]; rfl : W2.heap[bb]? = some (.cells #[.slice al1 (L.length + 1) cl1, .slice aw L.length cw, .int .i64 held, .bool false] 75 (0, 0)))
  have EW2 := Lib.hid hW2
  have HU2 := Lib.hid hu2
  clear hW2 hu2
  have HKB := Lib.hid HK.out.bk
  have k0 := cell_at HKB.out 0
  have kz := lt_of_heap HKB.out
  simp only [List.getElem?_toArray, List.getElem?_cons_zero] at k0
  have j0 := cell_at HBA.out 0
  have jf := free_all HBA.out
  have jz := lt_of_heap HBA.out
  simp only [List.getElem?_toArray, List.getElem?_cons_zero] at j0
  go_enter Tryd.func36, Tryd.ntmps36
  go_wp2_with (at_builtin; refine append_run rfl rfl rfl rfl HRUN.out ?_)
  rw [EW2.out]
  clear k0 kz j0 jf jz
  obtain ⟨W3, hW3⟩ : ∃ z, W2.drew = z := ⟨_, rfl⟩
  have hb3 : Below W2.heap.size W2 W3 := by rw [← hW3]; exact (Below.refl _ _).drew
  have HB3 := Lib.hid ((hb3.block _ (lt_of_heap HB2.out)).trans HB2.out)
  have HSS := Lib.hid (fun (w' : World) (h : w'.heap[bb]? = some (.cells #[.slice al1 (L.length + 1) cl1, .slice aw L.length cw, .int .i64 held, .bool false] 75 (0, 0))) => (⟨cell_at h 1, lt_of_heap h⟩ : w'.cell? ⟨bb, 1, none⟩ = some (.slice aw L.length cw) ∧ bb < w'.heap.size))
  refine Rgu.RGO_begin (fun w' => w'.heap[bb]? = some (.cells #[.slice al1 (L.length + 1) cl1, .slice aw L.length cw, .int .i64 held, .bool false] 75 (0, 0))) 11 12 [(0, 14), (1, 15), (2, 16), (3, 17), (4, 18), (5, 19)] rfl (by decide +kernel) (by kernel_rfl) (by rw [hW3]; exact HB3.out) (fun R hR => ?_)
  rw [hW3]
  repeat ((first | refine Rgu.RGO_take (by exact rfl) (by exact rfl) (by decide +kernel) (by exact rfl) (by intro w' hw'; obtain ⟨q1, qz⟩ := HSS.out _ hw'; go_simp; try with_reducible rfl) ?_ | refine Rgu.RGO_skip (by exact rfl) (by exact rfl) (by decide +kernel) (by exact rfl) ?_); try simp only [Act.put, List.setIfInBounds_toArray, List.set_cons_zero, List.set_cons_succ])
  clear hW3
  have hU1 : Upd (fun b => (Value.slice al L.length cl).ownBlock = some b) W A1 := Upd.trans ((Upd.of_below HW1.out : Upd (fun _ => False) W W1).mono fun _ _ h => h.elim) HAP.out.u
  have hU3 : Upd (fun b => b = bb ∨ (Value.slice al L.length cl).ownBlock = some b) W W3 := Upd.trans (Upd.trans (hU1.mono fun _ _ h => .inr h) (HU2.out.mono fun _ _ h => .inl h)) ((Upd.of_below hb3 : Upd (fun _ => False) W2 W3).mono fun _ _ h => h.elim)
  have hM3 : Upd (fun b => b = bb ∨ ∃ c, W.heap[b]? = some (.cells c 33 (0, 0))) W W3 := hU3.mono fun b _ h => h.imp id fun h => seg_block HK.out.ll h
  have hV3 := seg_mine HV.out HKB.out hM3
  have hW3z := hU3.size
  obtain ⟨vu, A3, hr2, ha2, _⟩ := run_append_seg (P := Tryd.prog) W3 base 33 33 3 i2 _ 1 8 elemE.t hi2 ez0 ez1 ez2 elemE.z elemE.p (.slice none 0 0) 0 [] (Seg.nil _ _ _ _) (.slice av n cv) n xs hV3.len hV3.src hs.2 (by unfold maxLen; omega) (by omega) (by omega)
  have hs2 := ha2.seg
  rw [List.nil_append, Nat.zero_add] at hs2
  obtain ⟨au, cu, rfl, hcu1, hcu2, hau⟩ := hs2.shape
  have hU4 : Upd (fun _ => False) W3 A3 := ha2.u.mono fun b _ h => by simp [Value.ownBlock] at h
  have HB4 := Lib.hid (Upd.mem hU4 HB3.out id)
  have HSU := Lib.hid hs2
  have HUB := Lib.hid ha2.blk
  have HRUN2 := Lib.hid hr2
  have HB3a := HB4
  obtain ⟨W5, hW5⟩ : ∃ Xz, A3.alloc (.cells #[.slice au n cu] 33) = Xz := ⟨_, rfl⟩
  obtain ⟨b2, hb2⟩ : ∃ xz, A3.heap.size = xz := ⟨_, rfl⟩
  have hb5 : Below A3.heap.size A3 W5 := by rw [← hW5]; exact (Below.refl _ _).alloc (Nat.le_refl _) _
  have HN2 := Lib.hid (by rw [← hW5, ← hb2]; exact alloc_new rfl : W5.heap[b2]? = some (.cells #[.slice au n cu] 33 (0, 0)))
  have EW5 := Lib.hid hW5
  have Eb2 := Lib.hid hb2
  clear hW5 hb2
  have HB4 := Lib.hid ((hb5.block _ (lt_of_heap HB4.out)).trans HB4.out)
  have HU5 := Lib.hid (Upd.trans hU4 (Upd.of_below hb5) : Upd (fun _ => False) W3 W5)
  have hsrc2 : Src W5 (.slice (some ⟨b2, 0, none⟩) 1 1) 1 [.slice au n cu] := by
    refine ⟨some ⟨b2, 0, none⟩, 1, rfl, (fun h => by cases h), fun ad had j u hu => ?_⟩
    cases had
    rw [add_plain, cell_at HN2.out]
    simpa using hu
  have hwlA : Seg A3 base 33 1 (.slice aw L.length cw) L.length (L.map (·.u)) := by
    refine (HK.out.wl.upd hU3 (fun b hb hS => ?_)).upd hU4 (fun _ _ h => h)
    rcases hS with rfl | hS
    · exact no_own HK.out.wl HKB.out (by decide) hb
    · exact HK.out.lw b hS hb
  have hwl := hwlA.below hb5
  obtain ⟨wv1, A6, hr3, ha3, _⟩ := run_append_seg (P := Tryd.prog) W5 base 73 73 33 i1 _ 1 24 elemL.t hi1 hz0 hz1 hz2 elemL.z elemL.p (.slice aw L.length cw) L.length (L.map (·.u)) hwl (.slice (some ⟨b2, 0, none⟩) 1 1) 1 [.slice au n cu] (by rfl) hsrc2 (by simp [Value.oneCell']) (by unfold maxLen; omega) (by omega) (by have := HU5.out.size; omega)
  obtain ⟨aw1, cw1, rfl, hw1, hw2, _⟩ := ha3.seg.shape
  have HRUN3 := Lib.hid hr3
  have hnw := no_own HK.out.wl HKB.out (by decide)
  have HB6 := Lib.hid (Upd.mem ha3.u HB4.out hnw)
  have HAP3 := Lib.hid ha3
  have HUW3 := Lib.hid hU3
  have HWA := Lib.hid hwlA
  have HB5 := Lib.hid hb5
  clear hr2 hr3 ha2 ha3 hsrc2 hwl hwlA hb5 hU1 hU3 hM3 hU4 hV3 hs2
  have j1 := cell_at HB6.out 1
  have jf := free_all HB6.out
  have jz := lt_of_heap HB6.out
  simp only [List.getElem?_toArray, List.getElem?_cons_zero, List.getElem?_cons_succ] at j1
  obtain ⟨W7, hW7⟩ : ∃ z, A6.setCell ⟨bb, 1, none⟩ (.slice aw1 (L.length + 1) cw1) = z := ⟨_, rfl⟩
  have hu7 : Upd (fun b => b = bb) A6 W7 := by rw [← hW7]; exact Upd.setCell (S := fun b => b = bb) (p := ⟨bb, 1, none⟩) (Upd.refl _ _) (fun _ => rfl) _
  have HB7 := Lib.hid (by rw [← hW7, heap_set HB6.out]; rfl : W7.heap[bb]? = some (.cells #[.slice al1 (L.length + 1) cl1, .slice aw1 (L.length + 1) cw1, .int .i64 held, .bool false] 75 (0, 0)))
  have hU57 : Upd (fun b => b = bb ∨ (Value.slice aw L.length cw).ownBlock = some b) A3 W7 := Upd.trans (Upd.trans ((Upd.of_below HB5.out : Upd (fun _ => False) A3 W5).mono fun _ _ h => h.elim) (HAP3.out.u.mono fun _ _ h => .inr h)) (hu7.mono fun _ _ h => .inl h)
  have hU7 : Upd (fun b => b = bb ∨ (Value.slice al L.length cl).ownBlock = some b ∨ (Value.slice aw L.length cw).ownBlock = some b) W W7 :=
    Upd.trans (HUW3.out.mono fun _ _ h => h.imp id .inl) (Upd.trans (HU5.out.mono fun _ _ h => h.elim) (Upd.trans (HAP3.out.u.mono fun _ _ h => .inr (.inr h)) (hu7.mono fun _ _ h => .inl h)))
  have hM7 : Upd (fun b => b = bb ∨ ∃ c, W.heap[b]? = some (.cells c 33 (0, 0))) W W7 := hU7.mono fun b _ h => h.imp id fun h => h.elim (seg_block HK.out.ll) (seg_block HK.out.wl)
  have hMM : Upd (Mine W base bb) W W7 := hU7.mono fun b _ h => by
    rcases h with rfl | h | h
    · exact ⟨HK.out.lo, .inl rfl⟩
    · exact ⟨(HK.out.ll.lt b h).1, .inr (seg_block HK.out.ll h)⟩
    · exact ⟨(HK.out.wl.lt b h).1, .inr (seg_block HK.out.wl h)⟩
  have hlw1 : ∀ b, (Value.slice al1 (L.length + 1) cl1).ownBlock = some b → (Value.slice aw L.length cw).ownBlock ≠ some b := fun b hb hw => by
    rcases HAP.out.blk with h | h
    · rw [h] at hb
      exact HK.out.lw b hb hw
    · have h1 := h b hb
      have h2 := (HK.out.wl.lt b hw).2
      have h3 := HW1.out.size
      omega
  have hlz : ∀ b, (Value.slice al1 (L.length + 1) cl1).ownBlock = some b → b < A1.heap.size := fun b hb => (HAP.out.seg.lt b hb).2
  have hz : A1.heap.size ≤ W3.heap.size := Nat.le_trans HU2.out.size hb3.size
  have hl7 : Seg W7 base 33 1 (.slice al1 (L.length + 1) cl1) (L.length + 1) (L.map (·.v) ++ [.slice av n cv]) := by
    have nb : ∀ b, (Value.slice al1 (L.length + 1) cl1).ownBlock = some b → ¬ b = bb := fun b hb e => by subst e; exact no_own HAP.out.seg HBA.out (by decide) hb
    exact ((((HAP.out.seg.upd HU2.out nb).below hb3).upd HU5.out (fun _ _ h => h)).upd HAP3.out.u (fun b hb h => hlw1 b hb h)).upd hu7 nb
  have hw7 : Seg W7 base 33 1 (.slice aw1 (L.length + 1) cw1) (L.length + 1) (L.map (·.u) ++ [.slice au n cu]) :=
    HAP3.out.seg.upd hu7 (fun b hb e => by subst e; exact no_own HAP3.out.seg HB6.out (by decide) hb)
  have hu7' : Seg W7 base 3 1 (.slice au n cu) n xs := HSU.out.upd hU57 (fun b hb h => by
    rcases h with rfl | h
    · exact no_own HSU.out HB3a.out (by decide) hb
    · obtain ⟨c, hc⟩ := seg_block HWA.out h
      obtain ⟨c', hc'⟩ := seg_block HSU.out hb
      rw [hc] at hc'
      simp at hc')
  have HBK := Lib.hid (show Bk W7 base bb (L ++ [⟨.slice av n cv, .slice au n cu, n, xs⟩]) (.slice al1 (L.length + 1) cl1) (.slice aw1 (L.length + 1) cw1) held from
    ⟨HK.out.lo, HB7.out, by rw [List.length_append, List.map_append]; exact hl7, by rw [List.length_append, List.map_append]; exact hw7, fun b hb hw => by
      rcases HAP3.out.blk with h | h
      · rw [h] at hw
        exact hlw1 b hb hw
      · have h1 := h b hw
        have h2 := hlz b hb
        have h3 := HU5.out.size
        omega, fun r hr => by
      rcases List.mem_append.1 hr with hr | hr
      · exact ⟨seg_mine (HK.out.vs r hr).1 HKB.out hM7, seg_mine (HK.out.vs r hr).2.1 HKB.out hM7, (HK.out.vs r hr).2.2⟩
      · rw [List.mem_singleton.1 hr]
        exact ⟨seg_mine HV.out HKB.out hM7, hu7', hs, hn⟩, List.pairwise_append.2 ⟨HK.out.ds, List.pairwise_singleton _ _, fun r hr q hq => by
      rw [List.mem_singleton.1 hq]
      exact hnew r hr⟩⟩)
  have HMM := Lib.hid hMM
  have EW7 := Lib.hid hW7
  clear hW7 hU57 hU7 hM7 hMM hlw1 hlz hz hl7 hw7 hu7' hu7 hnb hnw hb3 hal haw hau
  refine Rgu.RGO_one 6 [] (by exact rfl) (by decide +kernel) (by exact rfl) (fun K hK => ?_)
  refine Rgu.append_op rfl rfl rfl HRUN2.out (hK _ _ HB3a.out ?_)
  clear hK K
  try simp only [Act.put, List.setIfInBounds_toArray]
  refine Rgu.RGO_one 7 [] (by exact rfl) (by decide +kernel) (by exact rfl) (fun K hK => ?_)
  go_wp2_with fail
  rw [EW5.out, Eb2.out]
  refine hK _ _ HB4.out ?_
  clear hK K
  try simp only [Act.put, List.setIfInBounds_toArray, List.set_cons_zero, List.set_cons_succ]
  refine Rgu.RGO_one 8 [(9, 23), (10, 24)] (by exact rfl) (by decide +kernel) (by exact rfl) (fun K hK => ?_)
  refine Rgu.append_op rfl rfl rfl HRUN3.out (hK _ _ HB6.out ?_)
  clear hK K
  try simp only [Act.put, List.setIfInBounds_toArray, List.set_cons_zero, List.set_cons_succ]
  repeat ((first | refine Rgu.RGO_take (by exact rfl) (by exact rfl) (by decide +kernel) (by exact rfl) (by intro w' hw'; skip; go_simp; try with_reducible rfl) ?_ | refine Rgu.RGO_skip (by exact rfl) (by exact rfl) (by decide +kernel) (by exact rfl) ?_); try simp only [Act.put, List.setIfInBounds_toArray, List.set_cons_zero, List.set_cons_succ])
  refine Rgu.RGO_last 11 (by exact rfl) (by decide +kernel) (by exact rfl) (fun K hK => ?_)
  go_wp2_with fail
  rw [EW7.out]
  refine Rgu.RGH_done (by decide +kernel) (hR _ _ ?_)
  clear j1 jf jz
  have k2 := cell_at HB7.out 2
  have kf := free_all HB7.out
  have kz := lt_of_heap HB7.out
  simp only [List.getElem?_toArray, List.getElem?_cons_zero, List.getElem?_cons_succ] at k2
  go_wp2_with fail
  generalize wrap64 (wrap64 (held + (cv : Int)) + 1) = h1
  obtain ⟨W8, hW8⟩ : ∃ z, W7.setCell ⟨bb, 2, none⟩ (.int .i64 h1) = z := ⟨_, rfl⟩
  have hu8 : Upd (fun b => b = bb) W7 W8 := by rw [← hW8]; exact Upd.setCell (S := fun b => b = bb) (p := ⟨bb, 2, none⟩) (Upd.refl _ _) (fun _ => rfl) _
  have HB8 : W8.heap[bb]? = some (.cells #[.slice al1 (L.length + 1) cl1, .slice aw1 (L.length + 1) cw1, .int .i64 h1, .bool false] 75 (0, 0)) := by rw [← hW8, heap_set HB7.out]; rfl
  have HBK := Lib.hid (HBK.out.turn hu8 HB8 HBK.out.ll HBK.out.wl HBK.out.lw (fun _ h => h) HBK.out.ds)
  have HMM := Lib.hid (HMM.out.trans (hu8.mono fun b _ h => by subst h; exact ⟨HK.out.lo, .inl rfl⟩))
  have EW8 := Lib.hid hW8
  clear hu8 hW8 HB8
  have HIN := Lib.hid (show ∀ r, r ∈ L ++ [⟨.slice av n cv, .slice au n cu, n, xs⟩] → r ∈ L ∨ r.v = .slice av n cv from fun r hr => (List.mem_append.1 hr).imp id fun h => by rw [List.mem_singleton.1 h])
  rw [EW8.out]
  clear k2 kf kz
  go_loopg [] (L.length + 1) (fun g wr => ∃ (L' : List Rec) (lv' wv' : Value) (held' : Int), L'.length = g ∧ Bk wr base bb L' lv' wv' held' ∧ (∀ r, r ∈ L' → r ∈ L ∨ r.v = .slice av n cv) ∧ g ≤ L.length + 1 ∧ Upd (Mine W base bb) W wr)
  case atStart => exact ⟨_, _, _, _, by simp, HBK.out, HIN.out, Nat.le_refl _, HMM.out⟩
  case round =>
    obtain ⟨L', lv', wv', held', hg, hbk, hin, hle, hmm⟩ := hrel
    have HK2 := Lib.hid hbk
    have HIN := Lib.hid hin
    have HMM := Lib.hid hmm
    have HB := Lib.hid hbk.bk
    obtain ⟨al', cl', rfl, hcl', _, _⟩ := hbk.ll.shape
    obtain ⟨aw', cw', rfl, hcw', _, _⟩ := hbk.wl.shape
    have HG := Lib.hid hg
    rw [hg] at HB hcl' hcw'
    clear hin hmm
    have k0 := cell_at HB.out 0
    have k1 := cell_at HB.out 1
    have k2 := cell_at HB.out 2
    have k3 := cell_at HB.out 3
    have kf := free_all HB.out
    have kz := lt_of_heap HB.out
    simp only [List.getElem?_toArray, List.getElem?_cons_zero, List.getElem?_cons_succ] at k0 k1 k2 k3
    have hend : ∀ w', w' = wr → Kp W base bb L (.slice av n cv) w' := fun w' e => by
      subst e
      exact ⟨L', _, _, held', HK2.out, HIN.out, by rw [HG.out]; exact hle, HMM.out⟩
    have HE := Lib.hid hend
    clear hend
    by_cases c1 : 1 < gk
    · have c1' : (1 : Int) < gk := by omega
      obtain ⟨r, L2, rfl⟩ : ∃ r L2, L' = r :: L2 := by
        match L', hg with
        | [], hg => simp at hg; omega
        | r :: L2, _ => exact ⟨r, L2, rfl⟩
      obtain ⟨g1, o1, rfl, _, z1, fl0⟩ := hbk.ll.cells (by rw [hg]; omega)
      obtain ⟨g2, o2, rfl, _, z2, fl1⟩ := hbk.wl.cells (by rw [hg]; omega)
      have p0 := fl0 0 r.v rfl
      have p1 := fl1 0 r.u rfl
      clear fl0 fl1
      obtain ⟨w1, w2, w3, w4⟩ := hbk.vs r (List.mem_cons_self ..)
      obtain ⟨rv, ru, rn, rx⟩ := r
      simp only at p0 p1 w1 w2 w3 w4
      obtain ⟨ra, rc, rfl, _, _, _⟩ := w1.shape
      obtain ⟨rb, rd, rfl, _, _, _⟩ := w2.shape
      have HSAME := Lib.hid (fun (x : Later wr) => Same_calls ra rb rn rc rd (f0 rx) x.w ((row_of w1 w3).below x.h) ((row_of w2 w3).below x.h) (by omega))
      have HP0 := Lib.hid p0
      have HP1 := Lib.hid p1
      have q1 : ¬ cl' = 1 := by omega
      have q2 : ¬ cw' = 1 := by omega
      have q3 : (1 : Int) ≤ gk := by omega
      have q4 : (0 : Int) < gk := by omega
      have q5 : 0 < gk := by omega
      have q6 : 1 ≤ gk := by omega
      have s3 := set_later k3 kz
      rw [Nat.add_zero] at p0 p1
      clear w1 w2 w3 hbk hg
      by_cases c2 : 1000000 < held'
      · go_wp2_with fail
        refine region_calm (by kernel_rfl) (by kernel_rfl) ?_
        repeat (quiet_step ((exact later_call (HSAME.out _))))
        refine wpQuiet_nil ?_
        rintro _ ⟨x, rfl⟩
        have HKV := Lib.hid (HK2.out.below x.h)
        have HMV := Lib.hid (HMM.out.trans ((Upd.of_below x.h : Upd (fun _ => False) wr x.w).mono fun _ _ h => h.elim))
        have HBV := Lib.hid ((x.h.block _ (lt_of_heap HB.out)).trans HB.out)
        have hz1 := Nat.lt_of_lt_of_le z1 x.h.size
        have hz2 := Nat.lt_of_lt_of_le z2 x.h.size
        have y0 := (x.h.cell (p := ⟨g1, o1, none⟩) z1).trans p0
        have y1 := (x.h.cell (p := ⟨g2, o2, none⟩) z2).trans p1
        clear k0 k1 k2 k3 kf kz p0 p1 z1 z2 s3
        generalize x.w = V at HKV HMV HBV hz1 hz2 y0 y1 ⊢
        have k0 := cell_at HBV.out 0
        have k1 := cell_at HBV.out 1
        have k2 := cell_at HBV.out 2
        have k3 := cell_at HBV.out 3
        have kf := free_all HBV.out
        have kz := lt_of_heap HBV.out
        simp only [List.getElem?_toArray, List.getElem?_cons_zero, List.getElem?_cons_succ] at k0 k1 k2 k3
        go_wp2_with fail
        refine region_tail 16 (by kernel_rfl) (by kernel_rfl) ?_
        simp only [List.take_succ_cons, List.take_zero, List.drop_succ_cons, List.drop_zero]
        repeat (first | still_step)
        refine wpStill_nil ?_
        go_wp2_with fail
        generalize wrap64 (wrap64 (held' - (rc : Int)) - 1) = h2
        clear k0 k1 k2 k3 kf kz y0 y1 hz1 hz2
        go_roundg (gk - 1)
        case measure => omega
        case rel =>
          have hgk : L2.length = gk - 1 := by have := HG.out; simp at this; omega
          have hu : Upd (fun b => b = bb) V (((V.setCell ⟨bb, 2, none⟩ (.int .i64 h2)).setCell ⟨bb, 0, none⟩ (.slice (some ⟨g1, o1 + 1, none⟩) (gk - 1) (cl' - 1))).setCell ⟨bb, 1, none⟩ (.slice (some ⟨g2, o2 + 1, none⟩) (gk - 1) (cw' - 1))) :=
            (((Upd.refl _ _).setCell (S := fun b => b = bb) (p := ⟨bb, 2, none⟩) (fun _ => rfl) _).setCell (S := fun b => b = bb) (p := ⟨bb, 0, none⟩) (fun _ => rfl) _).setCell (S := fun b => b = bb) (p := ⟨bb, 1, none⟩) (fun _ => rfl) _
          have hl := HKV.out.ll
          have hw := HKV.out.wl
          rw [HG.out] at hl hw
          have hl2 := hl.drop (k := 1) (by omega)
          have hw2 := hw.drop (k := 1) (by omega)
          rw [← hgk] at hl2 hw2
          have hds := HKV.out.ds
          have hd0 : ∀ Z : World, Below Z.heap.size Z Z.drew := fun Z => (Below.refl _ _).drew
          have hlw : ∀ b, (Value.slice (some ⟨g1, o1 + 1, none⟩) (gk - 1) (cl' - 1)).ownBlock = some b → (Value.slice (some ⟨g2, o2 + 1, none⟩) (gk - 1) (cw' - 1)).ownBlock ≠ some b := fun b hb => HKV.out.lw b hb
          have hbk : Bk _ base bb L2 (.slice (some ⟨g1, o1 + 1, none⟩) (gk - 1) (cl' - 1)) (.slice (some ⟨g2, o2 + 1, none⟩) (gk - 1) (cw' - 1)) h2 :=
            HKV.out.turn hu (by rw [heap_set (heap_set (heap_set HBV.out 2 _) 0 _) 1 _]; rfl) (by rw [hgk]; rw [hgk] at hl2; simpa using hl2) (by rw [hgk]; rw [hgk] at hw2; simpa using hw2) hlw (fun r hr => List.mem_cons_of_mem _ hr) (List.pairwise_cons.1 hds).2
          exact ⟨L2, _, _, h2, hgk, hbk.below (hd0 _), fun r hr => HIN.out r (List.mem_cons_of_mem _ hr), by omega, (HMV.out.trans (hu.mono fun b _ h => by subst h; exact ⟨HK.out.lo, .inl rfl⟩)).trans ((Upd.of_below (hd0 _) : Upd (fun _ => False) _ _).mono fun _ _ h => h.elim)⟩
      · by_cases c3 : (4000 : Int) < gk
        · go_wp2_with fail
          refine region_calm (by kernel_rfl) (by kernel_rfl) ?_
          repeat (quiet_step ((exact later_call (HSAME.out _))))
          refine wpQuiet_nil ?_
          rintro _ ⟨x, rfl⟩
          have HKV := Lib.hid (HK2.out.below x.h)
          have HMV := Lib.hid (HMM.out.trans ((Upd.of_below x.h : Upd (fun _ => False) wr x.w).mono fun _ _ h => h.elim))
          have HBV := Lib.hid ((x.h.block _ (lt_of_heap HB.out)).trans HB.out)
          have hz1 := Nat.lt_of_lt_of_le z1 x.h.size
          have hz2 := Nat.lt_of_lt_of_le z2 x.h.size
          have y0 := (x.h.cell (p := ⟨g1, o1, none⟩) z1).trans p0
          have y1 := (x.h.cell (p := ⟨g2, o2, none⟩) z2).trans p1
          clear k0 k1 k2 k3 kf kz p0 p1 z1 z2 s3
          generalize x.w = V at HKV HMV HBV hz1 hz2 y0 y1 ⊢
          have k0 := cell_at HBV.out 0
          have k1 := cell_at HBV.out 1
          have k2 := cell_at HBV.out 2
          have k3 := cell_at HBV.out 3
          have kf := free_all HBV.out
          have kz := lt_of_heap HBV.out
          simp only [List.getElem?_toArray, List.getElem?_cons_zero, List.getElem?_cons_succ] at k0 k1 k2 k3
          go_wp2_with fail
          refine region_tail 16 (by kernel_rfl) (by kernel_rfl) ?_
          simp only [List.take_succ_cons, List.take_zero, List.drop_succ_cons, List.drop_zero]
          repeat (first | still_step)
          refine wpStill_nil ?_
          go_wp2_with fail
          generalize wrap64 (wrap64 (held' - (rc : Int)) - 1) = h2
          clear k0 k1 k2 k3 kf kz y0 y1 hz1 hz2
          go_roundg (gk - 1)
          case measure => omega
          case rel =>
            have hgk : L2.length = gk - 1 := by have := HG.out; simp at this; omega
            have hu : Upd (fun b => b = bb) V (((V.setCell ⟨bb, 2, none⟩ (.int .i64 h2)).setCell ⟨bb, 0, none⟩ (.slice (some ⟨g1, o1 + 1, none⟩) (gk - 1) (cl' - 1))).setCell ⟨bb, 1, none⟩ (.slice (some ⟨g2, o2 + 1, none⟩) (gk - 1) (cw' - 1))) :=
              (((Upd.refl _ _).setCell (S := fun b => b = bb) (p := ⟨bb, 2, none⟩) (fun _ => rfl) _).setCell (S := fun b => b = bb) (p := ⟨bb, 0, none⟩) (fun _ => rfl) _).setCell (S := fun b => b = bb) (p := ⟨bb, 1, none⟩) (fun _ => rfl) _
            have hl := HKV.out.ll
            have hw := HKV.out.wl
            rw [HG.out] at hl hw
            have hl2 := hl.drop (k := 1) (by omega)
            have hw2 := hw.drop (k := 1) (by omega)
            rw [← hgk] at hl2 hw2
            have hds := HKV.out.ds
            have hd0 : ∀ Z : World, Below Z.heap.size Z Z.drew := fun Z => (Below.refl _ _).drew
            have hlw : ∀ b, (Value.slice (some ⟨g1, o1 + 1, none⟩) (gk - 1) (cl' - 1)).ownBlock = some b → (Value.slice (some ⟨g2, o2 + 1, none⟩) (gk - 1) (cw' - 1)).ownBlock ≠ some b := fun b hb => HKV.out.lw b hb
            have hbk : Bk _ base bb L2 (.slice (some ⟨g1, o1 + 1, none⟩) (gk - 1) (cl' - 1)) (.slice (some ⟨g2, o2 + 1, none⟩) (gk - 1) (cw' - 1)) h2 :=
              HKV.out.turn hu (by rw [heap_set (heap_set (heap_set HBV.out 2 _) 0 _) 1 _]; rfl) (by rw [hgk]; rw [hgk] at hl2; simpa using hl2) (by rw [hgk]; rw [hgk] at hw2; simpa using hw2) hlw (fun r hr => List.mem_cons_of_mem _ hr) (List.pairwise_cons.1 hds).2
            exact ⟨L2, _, _, h2, hgk, hbk.below (hd0 _), fun r hr => HIN.out r (List.mem_cons_of_mem _ hr), by omega, (HMV.out.trans (hu.mono fun b _ h => by subst h; exact ⟨HK.out.lo, .inl rfl⟩)).trans ((Upd.of_below (hd0 _) : Upd (fun _ => False) _ _).mono fun _ _ h => h.elim)⟩
        · clear s3
          go_wp2_with fail
          go_end0
          exact ⟨⟨_, rfl⟩, HE.out _ rfl⟩
    · have c1' : ¬ ((1 : Int) < gk) := by omega
      go_wp2_with fail
      go_end0
      exact ⟨⟨_, rfl⟩, HE.out _ rfl⟩

set_option linter.unusedSimpArgs false in
set_option maxHeartbeats 2000000 in
set_option maxRecDepth 100000 in
theorem Stays_calls (bb base : Nat) (L : List Rec) (lv wv : Value) (held : Int) (W : World) (h : Bk W base bb L lv wv held) (hL : L.length ≤ 10000000) :
    Calls Tryd.prog 62 #[.pointer (some ⟨bb, 0, none⟩)] W fun e W' => e = .returned (.bool true) ∧ Below W.heap.size W W' := by
  have HK := Lib.hid h
  obtain ⟨al, cl, rfl, hcl, _, _⟩ := h.ll.shape
  obtain ⟨aw, cw, rfl, hcw, _, _⟩ := h.wl.shape
  have HB := Lib.hid h.bk
  clear h
  go_enter Tryd.func62, Tryd.ntmps62
  go_wp2_with fail
  go_loopg [3] L.length (fun g s3 wr => ∃ i : Nat, i ≤ L.length ∧ g = L.length - i ∧ s3 = .int .i64 i ∧ Below W.heap.size W wr)
  case atStart => exact ⟨0, Nat.zero_le _, by omega, rfl, Below.refl _ _⟩
  case round =>
    obtain ⟨i, hi, hg, rfl, hb⟩ := hrel
    have HG := Lib.hid hg
    have HBR := Lib.hid hb
    have HB2 := Lib.hid ((hb.block _ (lt_of_heap HB.out)).trans HB.out)
    clear hg
    have k0 := cell_at HB2.out 0
    have k1 := cell_at HB2.out 1
    have k3 := cell_at HB2.out 3
    have kf := free_all HB2.out
    have kz := lt_of_heap HB2.out
    simp only [List.getElem?_toArray, List.getElem?_cons_zero, List.getElem?_cons_succ] at k0 k1 k3
    by_cases hlt : i < L.length
    · have hlti : (i : Int) < L.length := by omega
      obtain ⟨g1, o1, rfl, _, z1, fl0⟩ := HK.out.ll.cells (by omega)
      obtain ⟨g2, o2, rfl, _, z2, fl1⟩ := HK.out.wl.cells (by omega)
      obtain ⟨r, hr⟩ : ∃ r, L[i]? = some r := ⟨_, List.getElem?_eq_getElem hlt⟩
      have p0 := fl0 i r.v (by rw [List.getElem?_map, hr]; rfl)
      have p1 := fl1 i r.u (by rw [List.getElem?_map, hr]; rfl)
      obtain ⟨w1, w2, w3, w4⟩ := HK.out.vs r (List.mem_of_getElem? hr)
      obtain ⟨rv, ru, rn, rx⟩ := r
      simp only at p0 p1 w1 w2 w3 w4
      obtain ⟨ra, rc, rfl, _, _, _⟩ := w1.shape
      obtain ⟨rb, rd, rfl, _, _, _⟩ := w2.shape
      rw [← hb.cell (p := ⟨g1, _, none⟩) z1] at p0
      rw [← hb.cell (p := ⟨g2, _, none⟩) z2] at p1
      have z1' := Nat.lt_of_lt_of_le z1 hb.size
      have z2' := Nat.lt_of_lt_of_le z2 hb.size
      have HSAME := Lib.hid (fun (x : Later wr) => Same_calls ra rb rn rc rd (f0 rx) x.w ((row_of w1 w3).below (HBR.out.trans (x.h.mono HBR.out.size))) ((row_of w2 w3).below (HBR.out.trans (x.h.mono HBR.out.size))) (by omega))
      have s3 := set_later k3 kz
      clear fl0 fl1 w1 w2 w3 hr hb z1 z2
      go_wp2_with fail
      refine region_calm (by kernel_rfl) (by kernel_rfl) ?_
      repeat (quiet_step ((exact later_call (HSAME.out _))))
      refine wpQuiet_nil ?_
      rintro _ ⟨x, rfl⟩
      have HBR := Lib.hid (Later.chain HBR.out x)
      generalize x.w = V at HBR ⊢
      clear x HSAME s3 k0 k1 k3 kf kz p0 p1 z1' z2'
      go_wp2_with fail
      go_roundg (L.length - (i + 1))
      case measure => have := HG.out; omega
      case rel => exact ⟨i + 1, by omega, rfl, by go_num, HBR.out⟩
    · have hil : i = L.length := by omega
      subst hil
      clear hb
      go_wp2_with fail
      go_ret
      exact ⟨rfl, HBR.out⟩
end Go.Proofs.YtkjkgpdfhmoenaaDoor.BookInt
