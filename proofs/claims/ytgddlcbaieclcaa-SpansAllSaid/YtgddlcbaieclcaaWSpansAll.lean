/-
  The walk of the law SpansAll.
-/
import Derived.Test.YtgddlcbaieclcaaSpSeq
import Derived.Test.YtgddlcbaieclcaaSpKnown
import Derived.Test.YtgddlcbaieclcaaSpRefMeet
import Derived.Test.YtgddlcbaieclcaaWithin
namespace Go.Proofs.Ytgddlcbaieclcaa.spansAll
open Go Go.RowKit Go.Proofs.Ytgddlcbaieclcaa.Kit Go.Proofs.Ytgddlcbaieclcaa.Range Go.Proofs.Ytgddlcbaieclcaa.SpFns Go.Proofs.Ytgddlcbaieclcaa.SpRight Go.Proofs.Ytgddlcbaieclcaa.SpFind Go.Proofs.Ytgddlcbaieclcaa.SpSize Go.Proofs.Ytgddlcbaieclcaa.SpKnown Go.Proofs.Ytgddlcbaieclcaa.SpLists Go.Proofs.Ytgddlcbaieclcaa.SpRefMeet Go.Proofs.Ytgddlcbaieclcaa.SpRef Go.Proofs.Ytgddlcbaieclcaa.SpAll Go.Proofs.Ytgddlcbaieclcaa.SpSeq Go.Proofs.Ytgddlcbaieclcaa.Within
attribute [local irreducible] wpQuiet
attribute [local go_sem] Oper.semAt_some

/-- What the law's cells hold behind k runes of a turn. -/
structure St (T : List Int) (st : Int) (w : World) (a : Option Addr) (len cap bx bs br bl bn bt k : Nat) (ds : List Nat) (W : World) : Prop where
  n : W.heap[bn]? = some (.cells #[.int .i64 k] 3 (0, 0))
  t : W.heap[bt]? = some (.cells #[.int .i32 (last T k)] 21 (0, 0))
  r : W.heap[br]? = some (.cells #[.bool false] 4 (0, 0))
  s : W.heap[bs]? = some (.cells #[.int .i64 st] 3 (0, 0))
  x : W.heap[bx]? = some (.cells #[.slice a len cap] 50 (0, 0))
  l : W.heap[bl]? = some (.cells #[.slice a len cap] 50 (0, 0))
  d : ∀ d, d ∈ ds → W.heap[d]? = some (.deferred (some []))
  b : Below w.heap.size w W

theorem St.keep {T : List Int} {st : Int} {w : World} {a : Option Addr} {len cap bx bs br bl bn bt k : Nat} {ds : List Nat} {A B : World} {X : Nat → Prop} (h : St T st w a len cap bx bs br bl bn bt k ds A) (hu : Upd X A B)
    (h1 : ¬ X bn) (h2 : ¬ X bt) (h3 : ¬ X br) (h4 : ¬ X bs) (h5 : ¬ X bx) (h5' : ¬ X bl) (h7 : ∀ d, d ∈ ds → ¬ X d) (h6 : ∀ b, b < w.heap.size → ¬ X b) : St T st w a len cap bx bs br bl bn bt k ds B :=
  ⟨(hu.block _ (lt_of_heap h.n) h1).trans h.n, (hu.block _ (lt_of_heap h.t) h2).trans h.t, (hu.block _ (lt_of_heap h.r) h3).trans h.r, (hu.block _ (lt_of_heap h.s) h4).trans h.s, (hu.block _ (lt_of_heap h.x) h5).trans h.x, (hu.block _ (lt_of_heap h.l) h5').trans h.l, fun d hd => (hu.block _ (lt_of_heap (h.d d hd)) (h7 d hd)).trans (h.d d hd),
    h.b.trans (hu.below h.b.size h6)⟩

theorem St.step {T : List Int} {st : Int} {w : World} {a : Option Addr} {len cap bx bs br bl bn bt k : Nat} {ds : List Nat} {A B : World} {r : Int} (h : St T st w a len cap bx bs br bl bn bt k ds A) (hB : (A.setCell ⟨bt, 0, none⟩ (.int .i32 r)).setCell ⟨bn, 0, none⟩ (.int .i64 ((k : Int) + 1)) = B)
    (hr : last T (k + 1) = r) (h0 : w.heap.size ≤ bx) (h1 : bx < bs) (h2 : bs < br) (h3 : br < bl) (h3' : bl < bn) (h4 : bn < bt) (h5 : ∀ d, d ∈ ds → d ≠ bn ∧ d ≠ bt) : St T st w a len cap bx bs br bl bn bt (k + 1) ds B ∧ Upd (fun b => b = bn ∨ b = bt ∨ b = br) A B := by
  have u1 : Upd (fun b => b = bt) A (A.setCell ⟨bt, 0, none⟩ (.int .i32 r)) := Upd.setCell (S := fun b => b = bt) (p := ⟨bt, 0, none⟩) (Upd.refl _ _) (fun _ => rfl) _
  have u2 : Upd (fun b => b = bn) (A.setCell ⟨bt, 0, none⟩ (.int .i32 r)) B := by rw [← hB]; exact Upd.setCell (S := fun b => b = bn) (p := ⟨bn, 0, none⟩) (Upd.refl _ _) (fun _ => rfl) _
  have u : Upd (fun b => b = bn ∨ b = bt) A B := (u1.mono fun _ _ h => .inr h).trans (u2.mono fun _ _ h => .inl h)
  have hn : (A.setCell ⟨bt, 0, none⟩ (.int .i32 r)).heap[bn]? = _ := (u1.block bn (lt_of_heap h.n) (by omega)).trans h.n
  have ht : (A.setCell ⟨bt, 0, none⟩ (.int .i32 r)).heap[bt]? = _ := heap_set h.t 0 _
  refine ⟨⟨?_, ?_, (u.block _ (lt_of_heap h.r) (by omega)).trans h.r, (u.block _ (lt_of_heap h.s) (by omega)).trans h.s, (u.block _ (lt_of_heap h.x) (by omega)).trans h.x, (u.block _ (lt_of_heap h.l) (by omega)).trans h.l, fun d hd => (u.block _ (lt_of_heap (h.d d hd)) (fun h => by have := h5 d hd; omega)).trans (h.d d hd), h.b.trans (u.below h.b.size (fun b hb h => by omega))⟩, u.mono fun _ _ h => h.elim .inl (fun h => .inr (.inl h))⟩
  · rw [← hB, heap_set hn]
    rfl
  · rw [u2.block bt (lt_of_heap ht) (by omega), ht, hr]
    rfl

theorem seq_nil (f : Fn) (p q : Array Value) (w : World) : (Go.binOp .eql 101 (.func f p q) .nilFunc).run Try.prog w = .ok (.bool false) w := by kernel_rfl

set_option maxHeartbeats 4000000 in
set_option maxRecDepth 100000 in
theorem walk (a : Option Addr) (len cap : Nat) (L H : Nat → Int) (n : Int) (w : World) (hr : Row w a len L H) (hl : len ≤ 17592186044416) (hn : -9223372036854775808 ≤ n ∧ n ≤ 9223372036854775807) :
    Calls Try.prog 16 #[.slice a len cap, .int .i64 n] w fun e w' => e = .returned (.bool true) ∧ Below w.heap.size w w' := by
  have HA := Lib.hid hr
  obtain ⟨ra', hra⟩ : ∃ z, z = rt L H len 0 := ⟨_, rfl⟩
  have RA := Lib.hid (fun w (h : Row w a len L H) => refRight_calls a len cap L H w h (by omega))
  rw [← hra] at RA
  have EA := Lib.hid hra
  clear hr hra
  refine calls_of_wp_marks Try.func16 rfl ?_
  simp only [Try.ntmps16, List.size_toArray, List.length_cons, List.length_nil, Nat.reduceAdd, Nat.reduceSub, Array.replicate_succ, Array.replicate_zero, List.push_toArray, List.append_toArray, List.nil_append, List.cons_append]
  obtain ⟨W1, hW1⟩ : ∃ Xz, w.alloc (.cells #[.slice a len cap] 50) = Xz := ⟨_, rfl⟩
  obtain ⟨bx, hbx⟩ : ∃ xz, w.heap.size = xz := ⟨_, rfl⟩
  have hb1 : Below w.heap.size w W1 := by rw [← hW1]; exact (Below.refl _ _).alloc (Nat.le_refl _) _
  have HX := Lib.hid (by rw [← hW1, ← hbx]; exact alloc_new rfl : W1.heap[bx]? = some (.cells #[.slice a len cap] 50 (0, 0)))
  have EW1 := Lib.hid hW1
  have Ebx := Lib.hid hbx
  clear hW1 hbx
  obtain ⟨W2, hW2⟩ : ∃ Xz, W1.alloc (.cells #[.int .i64 n] 3) = Xz := ⟨_, rfl⟩
  obtain ⟨bs, hbs⟩ : ∃ xz, W1.heap.size = xz := ⟨_, rfl⟩
  have hb2 : Below W1.heap.size W1 W2 := by rw [← hW2]; exact (Below.refl _ _).alloc (Nat.le_refl _) _
  have HS := Lib.hid (by rw [← hW2, ← hbs]; exact alloc_new rfl : W2.heap[bs]? = some (.cells #[.int .i64 n] 3 (0, 0)))
  have EW2 := Lib.hid hW2
  have Ebs := Lib.hid hbs
  clear hW2 hbs
  obtain ⟨W3, hW3⟩ : ∃ Xz, W2.alloc (.cells #[.bool false] 4) = Xz := ⟨_, rfl⟩
  obtain ⟨br, hbr⟩ : ∃ xz, W2.heap.size = xz := ⟨_, rfl⟩
  have hb3 : Below W2.heap.size W2 W3 := by rw [← hW3]; exact (Below.refl _ _).alloc (Nat.le_refl _) _
  have HRS := Lib.hid (by rw [← hW3, ← hbr]; exact alloc_new rfl : W3.heap[br]? = some (.cells #[.bool false] 4 (0, 0)))
  have EW3 := Lib.hid hW3
  have Ebr := Lib.hid hbr
  clear hW3 hbr
  have o1 : bx < bs := by rw [← Ebs.out]; exact lt_of_heap HX.out
  have o2 : bs < br := by rw [← Ebr.out]; exact lt_of_heap HS.out
  have o0 : w.heap.size ≤ bx := Nat.le_of_eq Ebx.out
  have HX := Lib.hid ((hb2.block _ (lt_of_heap HX.out)).trans HX.out)
  have HB := Lib.hid (chain hb1 hb2)
  have HX := Lib.hid ((hb3.block _ (lt_of_heap HX.out)).trans HX.out)
  have HS := Lib.hid ((hb3.block _ (lt_of_heap HS.out)).trans HS.out)
  have HB := Lib.hid (chain HB.out hb3)
  clear hb1 hb2 hb3
  go_wp2_with fail
  have e1 : bx + 1 = bs := by rw [← Ebs.out, ← EW1.out, ← Ebx.out]; simp
  have e2 : bs + 1 = br := by rw [← Ebr.out, ← EW2.out, ← Ebs.out]; simp
  rw [EW1.out, EW2.out, EW3.out, Ebx.out, e1, e2]
  clear e1 e2
  refine (RA.out W3 (HA.out.below HB.out)).mono ?_
  rintro e W4 ⟨rfl, hb⟩
  have HX := Lib.hid ((hb.block _ (lt_of_heap HX.out)).trans HX.out)
  have HS := Lib.hid ((hb.block _ (lt_of_heap HS.out)).trans HS.out)
  have HRS := Lib.hid ((hb.block _ (lt_of_heap HRS.out)).trans HRS.out)
  have HB := Lib.hid (chain HB.out hb)
  clear hb
  have x0 := cell_at HX.out 0
  have xz := lt_of_heap HX.out
  simp only [List.getElem?_toArray, List.getElem?_cons_zero] at x0
  have s0 := cell_at HS.out 0
  have sf := free_all HS.out
  have sz := lt_of_heap HS.out
  simp only [List.getElem?_toArray, List.getElem?_cons_zero] at s0
  have r0 := cell_at HRS.out 0
  have rf := free_all HRS.out
  have rz := lt_of_heap HRS.out
  simp only [List.getElem?_toArray, List.getElem?_cons_zero] at r0
  by_cases ha : ra'.2 ≠ 0
  · have ha' : (ra'.2 != 0) = true := by simpa using ha
    clear ha
    go_wp2_with fail
    refine (known_calls W4).mono ?_
    rintro e W5 ⟨rfl, hb⟩
    have HX := Lib.hid ((hb.block _ (lt_of_heap HX.out)).trans HX.out)
    have HS := Lib.hid ((hb.block _ (lt_of_heap HS.out)).trans HS.out)
    have HRS := Lib.hid ((hb.block _ (lt_of_heap HRS.out)).trans HRS.out)
    have HB := Lib.hid (chain HB.out hb)
    clear hb x0 xz s0 sf sz r0 rf rz
    have r0 := cell_at HRS.out 0
    have rf := free_all HRS.out
    have rz := lt_of_heap HRS.out
    simp only [List.getElem?_toArray, List.getElem?_cons_zero] at r0
    have hB := HB.out
    go_wp2_with fail
    refine leaves_marks (v := .bool true) [] _ (by simp) List.nodup_nil (fun w' hu => ⟨?_, rfl, ?_⟩)
    · have h0 : w'.cell? ⟨br, 0, none⟩ = some (.bool true) := by
        exact cell_at ((hu.block br (by simp; exact rz) (by simp)).trans (heap_set HRS.out 0 _)) 0
      simp [results, Try.results16, go_sem, h0]
    · have hu' := hu.below (B := w.heap.size) (by simp; exact hB.size) (by simp)
      exact (hB.setCell (by show w.heap.size ≤ br; omega) _).trans hu'
  replace ha : ra'.2 = 0 := by omega
  have ta : Rt L H len := Rt.of (by rw [← EA.out]; exact ha)
  have TA := Lib.hid ta
  have ha' : (ra'.2 != 0) = false := by simp [ha]
  clear ta ha
  go_wp2_with fail
  refine (All_calls a len cap W4).mono ?_
  rintro e W5 ⟨rfl, hW5⟩
  obtain ⟨bl, hbl⟩ : ∃ z, W4.heap.size = z := ⟨_, rfl⟩
  have o3 : br < bl := by rw [← hbl]; exact lt_of_heap HRS.out
  have hb : Below W4.heap.size W4 W5 := by rw [← hW5]; exact (Below.refl _ _).alloc (Nat.le_refl _) _
  have HL := Lib.hid (by rw [← hW5, ← hbl]; exact alloc_new rfl : W5.heap[bl]? = some (.cells #[.slice a len cap] 50 (0, 0)))
  have HX := Lib.hid ((hb.block _ (lt_of_heap HX.out)).trans HX.out)
  have HS := Lib.hid ((hb.block _ (lt_of_heap HS.out)).trans HS.out)
  have HRS := Lib.hid ((hb.block _ (lt_of_heap HRS.out)).trans HRS.out)
  have HB := Lib.hid (chain HB.out hb)
  rw [hbl]
  have EL := Lib.hid hbl
  clear hb hW5 hbl x0 xz s0 sf sz r0 rf rz
  have s0 := cell_at HS.out 0
  have sf := free_all HS.out
  have sz := lt_of_heap HS.out
  simp only [List.getElem?_toArray, List.getElem?_cons_zero] at s0
  have hsn := seq_nil
  obtain ⟨st, hst⟩ : ∃ z, 1 + n % (3000 - 1 + 1) = z := ⟨_, rfl⟩
  have hs1 : 1 ≤ st ∧ st ≤ 3000 := by omega
  go_wp2_with fail
  refine (Within_calls n 1 3000 W5 (by decide) (by decide) (by decide) hn.1 hn.2).mono ?_
  rw [hst]
  rintro e w' ⟨rfl, rfl⟩
  clear hst hsn
  obtain ⟨W6, hW6⟩ : ∃ z, W5.setCell ⟨bs, 0, none⟩ (.int .i64 st) = z := ⟨_, rfl⟩
  have hu6 : Upd (fun b => b = bs) W5 W6 := by rw [← hW6]; exact Upd.setCell (S := fun b => b = bs) (p := ⟨bs, 0, none⟩) (Upd.refl _ _) (fun _ => rfl) _
  have HS6 := Lib.hid (by rw [← hW6, heap_set HS.out]; rfl : W6.heap[bs]? = some (.cells #[.int .i64 st] 3 (0, 0)))
  have HX := Lib.hid ((hu6.block _ (lt_of_heap HX.out) (by omega)).trans HX.out)
  have HRS := Lib.hid ((hu6.block _ (lt_of_heap HRS.out) (by omega)).trans HRS.out)
  have HL := Lib.hid ((hu6.block _ (lt_of_heap HL.out) (by omega)).trans HL.out)
  have HB := Lib.hid (HB.out.trans (hu6.below HB.out.size (fun b hb e => by omega)))
  have EW6 := Lib.hid hW6
  clear hu6 hW6
  go_wp2_with fail
  rw [EW6.out]
  refine wp_loop_rounds 3 ?_
  rw [rounds_succ]
  have HDS := Lib.hid (show ∀ d, d ∈ ([] : List Nat) → W6.heap[d]? = some (.deferred (some [])) from fun d hd => by cases hd)
  obtain ⟨W7, hW7⟩ : ∃ Xz, W6.alloc (.cells #[.int .i64 0] 3) = Xz := ⟨_, rfl⟩
  obtain ⟨bn, hbn⟩ : ∃ xz, W6.heap.size = xz := ⟨_, rfl⟩
  have hb7 : Below W6.heap.size W6 W7 := by rw [← hW7]; exact (Below.refl _ _).alloc (Nat.le_refl _) _
  have HN := Lib.hid (by rw [← hW7, ← hbn]; exact alloc_new rfl : W7.heap[bn]? = some (.cells #[.int .i64 0] 3 (0, 0)))
  have EW7 := Lib.hid hW7
  have Ebn := Lib.hid hbn
  clear hW7 hbn
  obtain ⟨W8, hW8⟩ : ∃ Xz, W7.alloc (.cells #[.int .i32 (-1)] 21) = Xz := ⟨_, rfl⟩
  obtain ⟨bt, hbt⟩ : ∃ xz, W7.heap.size = xz := ⟨_, rfl⟩
  have hb8 : Below W7.heap.size W7 W8 := by rw [← hW8]; exact (Below.refl _ _).alloc (Nat.le_refl _) _
  have HT := Lib.hid (by rw [← hW8, ← hbt]; exact alloc_new rfl : W8.heap[bt]? = some (.cells #[.int .i32 (-1)] 21 (0, 0)))
  have EW8 := Lib.hid hW8
  have Ebt := Lib.hid hbt
  clear hW8 hbt
  have o4 : bl < bn := by rw [← Ebn.out]; exact lt_of_heap HL.out
  have o5 : bn < bt := by rw [← Ebt.out]; exact lt_of_heap HN.out
  have o6 : bt < W8.heap.size := lt_of_heap HT.out
  have hds : ∀ d, d ∈ ([] : List Nat) → d < bn ∧ d ≠ br := fun d hd => ⟨by rw [← Ebn.out]; exact lt_of_heap (HDS.out d hd), fun e => by have h1 := HDS.out d hd; rw [e] at h1; have h2 := HRS.out; rw [h1] at h2; cases h2⟩
  have HX := Lib.hid ((hb7.block _ (lt_of_heap HX.out)).trans HX.out)
  have HS6 := Lib.hid ((hb7.block _ (lt_of_heap HS6.out)).trans HS6.out)
  have HRS := Lib.hid ((hb7.block _ (lt_of_heap HRS.out)).trans HRS.out)
  have HL := Lib.hid ((hb7.block _ (lt_of_heap HL.out)).trans HL.out)
  have HB := Lib.hid (chain HB.out hb7)
  have HX := Lib.hid ((hb8.block _ (lt_of_heap HX.out)).trans HX.out)
  have HS6 := Lib.hid ((hb8.block _ (lt_of_heap HS6.out)).trans HS6.out)
  have HRS := Lib.hid ((hb8.block _ (lt_of_heap HRS.out)).trans HRS.out)
  have HL := Lib.hid ((hb8.block _ (lt_of_heap HL.out)).trans HL.out)
  have HN := Lib.hid ((hb8.block _ (lt_of_heap HN.out)).trans HN.out)
  have HB := Lib.hid (chain HB.out hb8)
  have HDS := Lib.hid (fun d hd => by have h1 := HDS.out d hd; have h2 := (hb7.block d (lt_of_heap h1)).trans h1; exact (hb8.block d (lt_of_heap h2)).trans h2 : ∀ d, d ∈ ([] : List Nat) → W8.heap[d]? = some (.deferred (some [])))
  have hbt : bn + 1 = bt := by rw [← Ebt.out, ← EW7.out, ← Ebn.out]; simp
  have hzz := HB.out.size
  clear hb7 hb8
  go_wp2_with fail
  rw [EW7.out, EW8.out, Ebn.out, hbt]
  clear hbt
  refine range_outer (w0 := W8) (N := (ra L H len 0).length) (Cap := fun b => b = bl ∨ ∃ x, a = some x ∧ x.block = b ∧ 0 < len) (gf := 79) (lb := #[.pointer (some ⟨bl, 0, none⟩)]) (encs := fun k => #[.int .i32 ((ra L H len 0).getD k 0)]) rfl (Go.Proofs.enters_of Try.func79 (by kernel_rfl) rfl)
    (all_iter W8 bl a len cap L H HL.out (HA.out.below HB.out) TA.out hl) (Below.refl _ _) (fun _ => rfl) ?capa
    (fun k S W => (∀ b, S b ↔ b = bn ∨ b = bt ∨ b = br) ∧ St (ra L H len 0) st w a len cap bx bs br bl bn bt k [] W ∧ (k : Int) < st)
    (fun c k S W => (∀ b, S b ↔ b = bn ∨ b = bt ∨ b = br) ∧ St (ra L H len 0) st w a len cap bx bs br bl bn bt (k + 1) [] W ∧ ((k + 1 : Nat) : Int) = st ∧ c = .exit 2)
    ?kia ?kxa (fun b => b = bn ∨ b = bt ∨ b = br) ⟨fun b => Iff.rfl, ⟨HN.out, HT.out, HRS.out, HS6.out, HX.out, HL.out, HDS.out, HB.out⟩, by simp; omega⟩ ?s0a ?rounda ?donea ?stopa
  case capa =>
    rintro b (rfl | ⟨x, hx, rfl, hp⟩)
    · exact lt_of_heap HL.out
    · obtain ⟨b, o, hab, hbl, _⟩ := (HA.out.below HB.out).at hp
      rw [hx] at hab
      cases hab
      exact hbl
  case kia =>
    rintro k S A B ⟨hS, hst, hlt⟩ hu
    exact ⟨hS, hst.keep hu (fun h => h.2 ((hS _).2 (.inl rfl))) (fun h => h.2 ((hS _).2 (.inr (.inl rfl)))) (fun h => h.2 ((hS _).2 (.inr (.inr rfl)))) (fun h => by have := h.1; omega) (fun h => by have := h.1; omega) (fun h => by have := h.1; omega) (fun d hd h => by have := h.1; have := hds d hd; omega) (fun b hb h => by have := h.1; omega), hlt⟩
  case kxa =>
    rintro c k S A B ⟨hS, hst, hlt, hc⟩ hu
    exact ⟨hS, hst.keep hu (fun h => h.2 ((hS _).2 (.inl rfl))) (fun h => h.2 ((hS _).2 (.inr (.inl rfl)))) (fun h => h.2 ((hS _).2 (.inr (.inr rfl)))) (fun h => by have := h.1; omega) (fun h => by have := h.1; omega) (fun h => by have := h.1; omega) (fun d hd h => by have := h.1; have := hds d hd; omega) (fun b hb h => by have := h.1; omega), hlt, hc⟩
  case s0a =>
    have hrow : ∀ x, a = some x → 0 < len → x.block < w.heap.size := fun x hx hp => by
      obtain ⟨b, o, hab, hbl, _⟩ := HA.out.at hp
      rw [hx] at hab
      cases hab
      exact hbl
    rintro b (rfl | rfl | rfl)
    · exact ⟨by omega, fun h => h.elim (fun h => by omega) (fun ⟨x, hx, h1, h2⟩ => by have := hrow x hx h2; omega)⟩
    · exact ⟨by omega, fun h => h.elim (fun h => by omega) (fun ⟨x, hx, h1, h2⟩ => by have := hrow x hx h2; omega)⟩
    · exact ⟨by omega, fun h => h.elim (fun h => by omega) (fun ⟨x, hx, h1, h2⟩ => by have := hrow x hx h2; omega)⟩
  case rounda =>
    rintro l k S A hk ⟨hS, hst, hlt⟩ h1 h2 h3 h4 h5 h6
    have hr1 := all_rise TA.out hk
    have hr2 := all_in hk
    have hr3 := all_bounds hk
    have hls := last_succ (ra L H len 0) k
    obtain ⟨r, hr⟩ : ∃ z, (ra L H len 0).getD k 0 = z := ⟨_, rfl⟩
    rw [hr] at hr1 hr2 hr3 hls ⊢
    obtain ⟨R, hcut⟩ := Rt.cut r len TA.out
    have HI := Lib.hid (fun w (h : Row w a len L H) => In_calls a len cap L H r R w h (by omega) hcut)
    rw [InD_cut TA.out hcut, hr2] at HI
    have HLS := Lib.hid hls
    have H6 := Lib.hid h6
    have HSI := Lib.hid hS
    clear hr hr2 hcut hst hls hk h5 h6
    gi_wp2
    refine ⟨Below.refl _ _, fun A2 hu hz hI2 hr2 => ?_⟩
    have HST := Lib.hid hI2.2.1
    clear hI2 hr2 hS
    have b0 := cell_at HST.out.t 0
    have b1 := cell_at HST.out.x 0
    have z0 := lt_of_heap HST.out.t
    have z1 := lt_of_heap HST.out.x
    simp only [List.getElem?_toArray, List.getElem?_cons_zero] at b0 b1
    obtain ⟨la, hla⟩ : ∃ z, last (ra L H len 0) k = z := ⟨_, rfl⟩
    rw [hla] at b0 hr1
    have hr1' : ¬ (r ≤ la) := by omega
    clear hla
    gi_wp2_with fail
    refine ⟨trivial, rfl, (CallsIn.inRound l (callsIn_wide.2 (HI.out A2 (HA.out.below HST.out.b)))).mono ?_⟩
    rintro e A3 ⟨rfl, hb⟩
    have HU3 := Lib.hid (Upd.of_below hb : Upd (fun b => b = bn ∨ b = bt ∨ b = br) A2 A3)
    have HST := Lib.hid (HST.out.keep (X := fun _ => False) (Upd.of_below hb) id id id id id id (fun _ _ => id) (fun _ _ => id))
    clear hb b0 b1 z0 z1
    have b0 := cell_at HST.out.n 0
    have b1 := cell_at HST.out.s 0
    have b2 := cell_at HST.out.t 0
    have z0 := lt_of_heap HST.out.n
    have z1 := lt_of_heap HST.out.s
    have z2 := lt_of_heap HST.out.t
    have f0 := free_at HST.out.n 0
    have f2 := free_at HST.out.t 0
    simp only [List.getElem?_toArray, List.getElem?_cons_zero] at b0 b1 b2
    have hk3 : (k : Int) ≤ 3000 := by omega
    obtain ⟨A4, hA4⟩ : ∃ z, (A3.setCell ⟨bt, 0, none⟩ (.int .i32 r)).setCell ⟨bn, 0, none⟩ (.int .i64 ((k : Int) + 1)) = z := ⟨_, rfl⟩
    obtain ⟨h7, h8⟩ := HST.out.step hA4 HLS.out o0 o1 o2 o3 o4 o5 (fun d hd => by have := hds d hd; omega)
    have HS7 := Lib.hid h7
    have HU4 := Lib.hid (HU3.out.trans h8)
    have EA4 := Lib.hid hA4
    have hA23 := h8.size
    clear h7 h8 hA4 hA23
    by_cases he : (k : Int) + 1 = st
    · have he' : ((k : Int) + 1 == st) = true := by simp [he]
      have HE := Lib.hid he
      clear he
      gi_wp2_with fail
      rw [EA4.out]
      exact ⟨S, ⟨HSI.out, HS7.out, by have := HE.out; omega, rfl⟩, HU4.out.mono (fun b _ h => .inl ((HSI.out b).2 h)), fun b hb => ⟨.inl hb, by have := (H6.out b hb).1; have := HU4.out.size; omega⟩⟩
    · have he' : ((k : Int) + 1 == st) = false := by simp [he]
      have HE := Lib.hid he
      clear he
      gi_wp2_with fail
      rw [EA4.out]
      exact ⟨S, ⟨HSI.out, HS7.out, by have := HE.out; omega⟩, HU4.out.mono (fun b _ h => .inl ((HSI.out b).2 h)), fun b hb => ⟨.inl hb, by have := (H6.out b hb).1; have := HU4.out.size; omega⟩⟩
  case donea =>
    rintro S B ⟨hS, hst, hlt⟩ hD
    obtain ⟨m, hm⟩ : ∃ z, (ra L H len 0).length = z := ⟨_, rfl⟩
    have HSZ := Lib.hid (fun (x : Later B) => Size_calls a len cap L H x.w (HA.out.below (chain hst.b x.h)) TA.out.len_le)
    rw [← all_len TA.out, hm] at HSZ
    rw [hm] at hst hlt
    have e1 : ((m : Int) != st) = true := by simp; omega
    have HST := Lib.hid hst
    have HDD := Lib.hid hD
    clear hst hD hS hlt hm
    have b0 := cell_at HST.out.n 0
    have b1 := cell_at HST.out.s 0
    have b2 := cell_at HST.out.x 0
    have z0 := lt_of_heap HST.out.n
    have z1 := lt_of_heap HST.out.s
    have z2 := lt_of_heap HST.out.x
    simp only [List.getElem?_toArray, List.getElem?_cons_zero] at b0 b1 b2
    go_wp2_with fail
    refine region_calm (by kernel_rfl) (by kernel_rfl) ?_
    repeat (quiet_step ((exact later_call (HSZ.out _))))
    refine wpQuiet_nil ?_
    rintro _ ⟨x, rfl⟩
    have HST := Lib.hid (HST.out.keep (X := fun _ => False) (Upd.of_below x.h) id id id id id id (fun _ _ => id) (fun _ _ => id))
    have HDD := Lib.hid ((x.h.block _ (lt_of_heap HDD.out)).trans HDD.out)
    obtain ⟨q1, hq⟩ : ∃ z, W8.heap.size = z := ⟨_, rfl⟩
    have o7q1 : bt < q1 := by rw [← hq]; exact o6
    rw [hq] at HDD ⊢
    clear hq HSZ b0 b1 b2 z0 z1 z2
    generalize x.w = V at HST HDD ⊢
    go_wp2_with fail
    rw [rounds_succ]
    have HX := Lib.hid HST.out.x
    have HS6 := Lib.hid HST.out.s
    have HRS := Lib.hid HST.out.r
    have HL := Lib.hid HST.out.l
    have HB := Lib.hid HST.out.b
    have HDS := Lib.hid (show ∀ e, e ∈ ([q1] : List Nat) → V.heap[e]? = some (.deferred (some [])) from fun e he => by rw [List.mem_singleton] at he; rw [he]; exact HDD.out)
    obtain ⟨W7, hW7⟩ : ∃ Xz, V.alloc (.cells #[.int .i64 0] 3) = Xz := ⟨_, rfl⟩
    obtain ⟨bn, hbn⟩ : ∃ xz, V.heap.size = xz := ⟨_, rfl⟩
    have hb7 : Below V.heap.size V W7 := by rw [← hW7]; exact (Below.refl _ _).alloc (Nat.le_refl _) _
    have HN := Lib.hid (by rw [← hW7, ← hbn]; exact alloc_new rfl : W7.heap[bn]? = some (.cells #[.int .i64 0] 3 (0, 0)))
    have EW7 := Lib.hid hW7
    have Ebn := Lib.hid hbn
    clear hW7 hbn
    obtain ⟨W8, hW8⟩ : ∃ Xz, W7.alloc (.cells #[.int .i32 (-1)] 21) = Xz := ⟨_, rfl⟩
    obtain ⟨bt, hbt⟩ : ∃ xz, W7.heap.size = xz := ⟨_, rfl⟩
    have hb8 : Below W7.heap.size W7 W8 := by rw [← hW8]; exact (Below.refl _ _).alloc (Nat.le_refl _) _
    have HT := Lib.hid (by rw [← hW8, ← hbt]; exact alloc_new rfl : W8.heap[bt]? = some (.cells #[.int .i32 (-1)] 21 (0, 0)))
    have EW8 := Lib.hid hW8
    have Ebt := Lib.hid hbt
    clear hW8 hbt
    have o4 : bl < bn := by rw [← Ebn.out]; exact lt_of_heap HL.out
    have o5 : bn < bt := by rw [← Ebt.out]; exact lt_of_heap HN.out
    have o6 : bt < W8.heap.size := lt_of_heap HT.out
    have hds : ∀ d, d ∈ ([q1] : List Nat) → d < bn ∧ d ≠ br := fun d hd => ⟨by rw [← Ebn.out]; exact lt_of_heap (HDS.out d hd), fun e => by have h1 := HDS.out d hd; rw [e] at h1; have h2 := HRS.out; rw [h1] at h2; cases h2⟩
    have HX := Lib.hid ((hb7.block _ (lt_of_heap HX.out)).trans HX.out)
    have HS6 := Lib.hid ((hb7.block _ (lt_of_heap HS6.out)).trans HS6.out)
    have HRS := Lib.hid ((hb7.block _ (lt_of_heap HRS.out)).trans HRS.out)
    have HL := Lib.hid ((hb7.block _ (lt_of_heap HL.out)).trans HL.out)
    have HB := Lib.hid (chain HB.out hb7)
    have HX := Lib.hid ((hb8.block _ (lt_of_heap HX.out)).trans HX.out)
    have HS6 := Lib.hid ((hb8.block _ (lt_of_heap HS6.out)).trans HS6.out)
    have HRS := Lib.hid ((hb8.block _ (lt_of_heap HRS.out)).trans HRS.out)
    have HL := Lib.hid ((hb8.block _ (lt_of_heap HL.out)).trans HL.out)
    have HN := Lib.hid ((hb8.block _ (lt_of_heap HN.out)).trans HN.out)
    have HB := Lib.hid (chain HB.out hb8)
    have HDS := Lib.hid (fun d hd => by have h1 := HDS.out d hd; have h2 := (hb7.block d (lt_of_heap h1)).trans h1; exact (hb8.block d (lt_of_heap h2)).trans h2 : ∀ d, d ∈ ([q1] : List Nat) → W8.heap[d]? = some (.deferred (some [])))
    have hbt : bn + 1 = bt := by rw [← Ebt.out, ← EW7.out, ← Ebn.out]; simp
    have hzz := HB.out.size
    clear hb7 hb8
    go_wp2_with fail
    rw [EW7.out, EW8.out, Ebn.out, hbt]
    clear hbt
    refine range_outer (w0 := W8) (N := (ra L H len 0).length) (Cap := fun b => b = bl ∨ ∃ x, a = some x ∧ x.block = b ∧ 0 < len) (gf := 79) (lb := #[.pointer (some ⟨bl, 0, none⟩)]) (encs := fun k => #[.int .i32 ((ra L H len 0).getD k 0)]) rfl (Go.Proofs.enters_of Try.func79 (by kernel_rfl) rfl)
      (all_iter W8 bl a len cap L H HL.out (HA.out.below HB.out) TA.out hl) (Below.refl _ _) (fun _ => rfl) ?capb
      (fun k S W => (∀ b, S b ↔ b = bn ∨ b = bt ∨ b = br) ∧ St (ra L H len 0) st w a len cap bx bs br bl bn bt k [q1] W ∧ (k : Int) < st)
      (fun c k S W => (∀ b, S b ↔ b = bn ∨ b = bt ∨ b = br) ∧ St (ra L H len 0) st w a len cap bx bs br bl bn bt (k + 1) [q1] W ∧ ((k + 1 : Nat) : Int) = st ∧ c = .exit 2)
      ?kib ?kxb (fun b => b = bn ∨ b = bt ∨ b = br) ⟨fun b => Iff.rfl, ⟨HN.out, HT.out, HRS.out, HS6.out, HX.out, HL.out, HDS.out, HB.out⟩, by simp; omega⟩ ?s0b ?roundb ?doneb ?stopb
    case capb =>
      rintro b (rfl | ⟨x, hx, rfl, hp⟩)
      · exact lt_of_heap HL.out
      · obtain ⟨b, o, hab, hbl, _⟩ := (HA.out.below HB.out).at hp
        rw [hx] at hab
        cases hab
        exact hbl
    case kib =>
      rintro k S A B ⟨hS, hst, hlt⟩ hu
      exact ⟨hS, hst.keep hu (fun h => h.2 ((hS _).2 (.inl rfl))) (fun h => h.2 ((hS _).2 (.inr (.inl rfl)))) (fun h => h.2 ((hS _).2 (.inr (.inr rfl)))) (fun h => by have := h.1; omega) (fun h => by have := h.1; omega) (fun h => by have := h.1; omega) (fun d hd h => by have := h.1; have := hds d hd; omega) (fun b hb h => by have := h.1; omega), hlt⟩
    case kxb =>
      rintro c k S A B ⟨hS, hst, hlt, hc⟩ hu
      exact ⟨hS, hst.keep hu (fun h => h.2 ((hS _).2 (.inl rfl))) (fun h => h.2 ((hS _).2 (.inr (.inl rfl)))) (fun h => h.2 ((hS _).2 (.inr (.inr rfl)))) (fun h => by have := h.1; omega) (fun h => by have := h.1; omega) (fun h => by have := h.1; omega) (fun d hd h => by have := h.1; have := hds d hd; omega) (fun b hb h => by have := h.1; omega), hlt, hc⟩
    case s0b =>
      have hrow : ∀ x, a = some x → 0 < len → x.block < w.heap.size := fun x hx hp => by
        obtain ⟨b, o, hab, hbl, _⟩ := HA.out.at hp
        rw [hx] at hab
        cases hab
        exact hbl
      rintro b (rfl | rfl | rfl)
      · exact ⟨by omega, fun h => h.elim (fun h => by omega) (fun ⟨x, hx, h1, h2⟩ => by have := hrow x hx h2; omega)⟩
      · exact ⟨by omega, fun h => h.elim (fun h => by omega) (fun ⟨x, hx, h1, h2⟩ => by have := hrow x hx h2; omega)⟩
      · exact ⟨by omega, fun h => h.elim (fun h => by omega) (fun ⟨x, hx, h1, h2⟩ => by have := hrow x hx h2; omega)⟩
    case roundb =>
      rintro l k S A hk ⟨hS, hst, hlt⟩ h1 h2 h3 h4 h5 h6
      have hr1 := all_rise TA.out hk
      have hr2 := all_in hk
      have hr3 := all_bounds hk
      have hls := last_succ (ra L H len 0) k
      obtain ⟨r, hr⟩ : ∃ z, (ra L H len 0).getD k 0 = z := ⟨_, rfl⟩
      rw [hr] at hr1 hr2 hr3 hls ⊢
      obtain ⟨R, hcut⟩ := Rt.cut r len TA.out
      have HI := Lib.hid (fun w (h : Row w a len L H) => In_calls a len cap L H r R w h (by omega) hcut)
      rw [InD_cut TA.out hcut, hr2] at HI
      have HLS := Lib.hid hls
      have H6 := Lib.hid h6
      have HSI := Lib.hid hS
      clear hr hr2 hcut hst hls hk h5 h6
      gi_wp2
      refine ⟨Below.refl _ _, fun A2 hu hz hI2 hr2 => ?_⟩
      have HST := Lib.hid hI2.2.1
      clear hI2 hr2 hS
      have b0 := cell_at HST.out.t 0
      have b1 := cell_at HST.out.x 0
      have z0 := lt_of_heap HST.out.t
      have z1 := lt_of_heap HST.out.x
      simp only [List.getElem?_toArray, List.getElem?_cons_zero] at b0 b1
      obtain ⟨la, hla⟩ : ∃ z, last (ra L H len 0) k = z := ⟨_, rfl⟩
      rw [hla] at b0 hr1
      have hr1' : ¬ (r ≤ la) := by omega
      clear hla
      gi_wp2_with fail
      refine ⟨trivial, rfl, (CallsIn.inRound l (callsIn_wide.2 (HI.out A2 (HA.out.below HST.out.b)))).mono ?_⟩
      rintro e A3 ⟨rfl, hb⟩
      have HU3 := Lib.hid (Upd.of_below hb : Upd (fun b => b = bn ∨ b = bt ∨ b = br) A2 A3)
      have HST := Lib.hid (HST.out.keep (X := fun _ => False) (Upd.of_below hb) id id id id id id (fun _ _ => id) (fun _ _ => id))
      clear hb b0 b1 z0 z1
      have b0 := cell_at HST.out.n 0
      have b1 := cell_at HST.out.s 0
      have b2 := cell_at HST.out.t 0
      have z0 := lt_of_heap HST.out.n
      have z1 := lt_of_heap HST.out.s
      have z2 := lt_of_heap HST.out.t
      have f0 := free_at HST.out.n 0
      have f2 := free_at HST.out.t 0
      simp only [List.getElem?_toArray, List.getElem?_cons_zero] at b0 b1 b2
      have hk3 : (k : Int) ≤ 3000 := by omega
      obtain ⟨A4, hA4⟩ : ∃ z, (A3.setCell ⟨bt, 0, none⟩ (.int .i32 r)).setCell ⟨bn, 0, none⟩ (.int .i64 ((k : Int) + 1)) = z := ⟨_, rfl⟩
      obtain ⟨h7, h8⟩ := HST.out.step hA4 HLS.out o0 o1 o2 o3 o4 o5 (fun d hd => by have := hds d hd; omega)
      have HS7 := Lib.hid h7
      have HU4 := Lib.hid (HU3.out.trans h8)
      have EA4 := Lib.hid hA4
      have hA23 := h8.size
      clear h7 h8 hA4 hA23
      by_cases he : (k : Int) + 1 = st
      · have he' : ((k : Int) + 1 == st) = true := by simp [he]
        have HE := Lib.hid he
        clear he
        gi_wp2_with fail
        rw [EA4.out]
        exact ⟨S, ⟨HSI.out, HS7.out, by have := HE.out; omega, rfl⟩, HU4.out.mono (fun b _ h => .inl ((HSI.out b).2 h)), fun b hb => ⟨.inl hb, by have := (H6.out b hb).1; have := HU4.out.size; omega⟩⟩
      · have he' : ((k : Int) + 1 == st) = false := by simp [he]
        have HE := Lib.hid he
        clear he
        gi_wp2_with fail
        rw [EA4.out]
        exact ⟨S, ⟨HSI.out, HS7.out, by have := HE.out; omega⟩, HU4.out.mono (fun b _ h => .inl ((HSI.out b).2 h)), fun b hb => ⟨.inl hb, by have := (H6.out b hb).1; have := HU4.out.size; omega⟩⟩
    case doneb =>
      rintro S B ⟨hS, hst, hlt⟩ hD
      have h9 := Nat.le_refl W8.heap.size
      obtain ⟨m, hm⟩ : ∃ z, (ra L H len 0).length = z := ⟨_, rfl⟩
      have HSZ := Lib.hid (fun (x : Later B) => Size_calls a len cap L H x.w (HA.out.below (chain hst.b x.h)) TA.out.len_le)
      rw [← all_len TA.out, hm] at HSZ
      rw [hm] at hst hlt
      have e1 : ((m : Int) != st) = true := by simp; omega
      have HST := Lib.hid hst
      have HDD := Lib.hid hD
      clear hst hD hS hlt hm
      have b0 := cell_at HST.out.n 0
      have b1 := cell_at HST.out.s 0
      have b2 := cell_at HST.out.x 0
      have z0 := lt_of_heap HST.out.n
      have z1 := lt_of_heap HST.out.s
      have z2 := lt_of_heap HST.out.x
      simp only [List.getElem?_toArray, List.getElem?_cons_zero] at b0 b1 b2
      go_wp2_with fail
      refine region_calm (by kernel_rfl) (by kernel_rfl) ?_
      repeat (quiet_step ((exact later_call (HSZ.out _))))
      refine wpQuiet_nil ?_
      rintro _ ⟨x, rfl⟩
      have HST := Lib.hid (HST.out.keep (X := fun _ => False) (Upd.of_below x.h) id id id id id id (fun _ _ => id) (fun _ _ => id))
      have HDD := Lib.hid ((x.h.block _ (lt_of_heap HDD.out)).trans HDD.out)
      obtain ⟨q2, hq⟩ : ∃ z, W8.heap.size = z := ⟨_, rfl⟩
      have o7q2 : bt < q2 := by rw [← hq]; exact o6
      rw [hq] at HDD ⊢
      clear hq HSZ b0 b1 b2 z0 z1 z2
      generalize x.w = V at HST HDD ⊢
      go_wp2_with fail
      rw [rounds_succ]
      have hd0 := hds q1 (List.mem_singleton.2 rfl)
      have hq12 : q2 ≠ q1 := by omega
      have hb1 : br ≠ q1 := Ne.symm hd0.2
      have hb2 : br ≠ q2 := by omega
      go_wp2_with fail
      refine (known_calls V).mono ?_
      rintro e V2 ⟨rfl, hb⟩
      have HST := Lib.hid (HST.out.keep (X := fun _ => False) (Upd.of_below hb) id id id id id id (fun _ _ => id) (fun _ _ => id))
      have HDD := Lib.hid ((hb.block _ (lt_of_heap HDD.out)).trans HDD.out)
      clear hb
      have r0 := cell_at HST.out.r 0
      have rf := free_at HST.out.r 0
      have rz := lt_of_heap HST.out.r
      simp only [List.getElem?_toArray, List.getElem?_cons_zero] at r0
      go_wp2_with fail
      have hd1 := HST.out.d q1 (List.mem_singleton.2 rfl)
      have hd2 := HDD.out
      have hB := HST.out.b
      refine leaves_marks (v := .bool true) [q2, q1] _ (fun d hd => ?_) (by simp [hq12]) (fun w' hu => ⟨?_, rfl, ?_⟩)
      · have hne : d ≠ br := by
          rcases List.mem_cons.1 hd with rfl | hd
          · exact Ne.symm hb2
          · rw [List.mem_singleton] at hd
            rw [hd]
            exact Ne.symm hb1
        rw [Below.heap_setCell _ _ _ _ hne]
        rcases List.mem_cons.1 hd with rfl | hd
        · exact hd2
        · rw [List.mem_singleton] at hd
          rw [hd]
          exact hd1
      · have h0 : w'.cell? ⟨br, 0, none⟩ = some (.bool true) := by
          exact cell_at ((hu.block br (by simp; exact rz) (by simp [hb1, hb2])).trans (heap_set HST.out.r 0 _)) 0
        simp [results, Try.results16, go_sem, h0]
      · have hu' := hu.below (B := w.heap.size) (by simp; exact hB.size) (fun k hk h => by
          simp only [List.mem_cons, List.not_mem_nil, or_false] at h
          omega)
        exact (hB.setCell (by show w.heap.size ≤ br; omega) _).trans hu'
    case stopb =>
      rintro c k S B hk ⟨hS, hst, hlt, rfl⟩ hD
      obtain ⟨m, hm⟩ : ∃ z, k + 1 = z := ⟨_, rfl⟩
      obtain ⟨N, hN⟩ : ∃ z, (ra L H len 0).length = z := ⟨_, rfl⟩
      have HSZ := Lib.hid (fun (x : Later B) => Size_calls a len cap L H x.w (HA.out.below (chain hst.b x.h)) TA.out.len_le)
      rw [← all_len TA.out, hN] at HSZ
      rw [hN] at hk
      rw [hm] at hst hlt
      have e1 : ((m : Int) != st) = false := by simp; omega
      have e2 : ¬ ((N : Int) < m) := by omega
      have HST := Lib.hid hst
      have HDD := Lib.hid hD
      clear hst hD hS hlt hm
      have b0 := cell_at HST.out.n 0
      have b1 := cell_at HST.out.s 0
      have b2 := cell_at HST.out.x 0
      have z0 := lt_of_heap HST.out.n
      have z1 := lt_of_heap HST.out.s
      have z2 := lt_of_heap HST.out.x
      simp only [List.getElem?_toArray, List.getElem?_cons_zero] at b0 b1 b2
      go_wp2_with fail
      refine region_calm (by kernel_rfl) (by kernel_rfl) ?_
      repeat (quiet_step ((exact later_call (HSZ.out _))))
      refine wpQuiet_nil ?_
      rintro _ ⟨x, rfl⟩
      have HST := Lib.hid (HST.out.keep (X := fun _ => False) (Upd.of_below x.h) id id id id id id (fun _ _ => id) (fun _ _ => id))
      have HDD := Lib.hid ((x.h.block _ (lt_of_heap HDD.out)).trans HDD.out)
      obtain ⟨q2, hq⟩ : ∃ z, W8.heap.size = z := ⟨_, rfl⟩
      have o7q2 : bt < q2 := by rw [← hq]; exact o6
      rw [hq] at HDD ⊢
      clear hq HSZ b0 b1 b2 z0 z1 z2
      generalize x.w = V at HST HDD ⊢
      go_wp2_with fail
      rw [rounds_succ]
      have hd0 := hds q1 (List.mem_singleton.2 rfl)
      have hq12 : q2 ≠ q1 := by omega
      have hb1 : br ≠ q1 := Ne.symm hd0.2
      have hb2 : br ≠ q2 := by omega
      go_wp2_with fail
      refine (known_calls V).mono ?_
      rintro e V2 ⟨rfl, hb⟩
      have HST := Lib.hid (HST.out.keep (X := fun _ => False) (Upd.of_below hb) id id id id id id (fun _ _ => id) (fun _ _ => id))
      have HDD := Lib.hid ((hb.block _ (lt_of_heap HDD.out)).trans HDD.out)
      clear hb
      have r0 := cell_at HST.out.r 0
      have rf := free_at HST.out.r 0
      have rz := lt_of_heap HST.out.r
      simp only [List.getElem?_toArray, List.getElem?_cons_zero] at r0
      go_wp2_with fail
      have hd1 := HST.out.d q1 (List.mem_singleton.2 rfl)
      have hd2 := HDD.out
      have hB := HST.out.b
      refine leaves_marks (v := .bool true) [q2, q1] _ (fun d hd => ?_) (by simp [hq12]) (fun w' hu => ⟨?_, rfl, ?_⟩)
      · have hne : d ≠ br := by
          rcases List.mem_cons.1 hd with rfl | hd
          · exact Ne.symm hb2
          · rw [List.mem_singleton] at hd
            rw [hd]
            exact Ne.symm hb1
        rw [Below.heap_setCell _ _ _ _ hne]
        rcases List.mem_cons.1 hd with rfl | hd
        · exact hd2
        · rw [List.mem_singleton] at hd
          rw [hd]
          exact hd1
      · have h0 : w'.cell? ⟨br, 0, none⟩ = some (.bool true) := by
          exact cell_at ((hu.block br (by simp; exact rz) (by simp [hb1, hb2])).trans (heap_set HST.out.r 0 _)) 0
        simp [results, Try.results16, go_sem, h0]
      · have hu' := hu.below (B := w.heap.size) (by simp; exact hB.size) (fun k hk h => by
          simp only [List.mem_cons, List.not_mem_nil, or_false] at h
          omega)
        exact (hB.setCell (by show w.heap.size ≤ br; omega) _).trans hu'
  case stopa =>
    rintro c k S B hk ⟨hS, hst, hlt, rfl⟩ hD
    obtain ⟨m, hm⟩ : ∃ z, k + 1 = z := ⟨_, rfl⟩
    obtain ⟨N, hN⟩ : ∃ z, (ra L H len 0).length = z := ⟨_, rfl⟩
    have HSZ := Lib.hid (fun (x : Later B) => Size_calls a len cap L H x.w (HA.out.below (chain hst.b x.h)) TA.out.len_le)
    rw [← all_len TA.out, hN] at HSZ
    rw [hN] at hk
    rw [hm] at hst hlt
    have e1 : ((m : Int) != st) = false := by simp; omega
    have e2 : ¬ ((N : Int) < m) := by omega
    have HST := Lib.hid hst
    have HDD := Lib.hid hD
    clear hst hD hS hlt hm
    have b0 := cell_at HST.out.n 0
    have b1 := cell_at HST.out.s 0
    have b2 := cell_at HST.out.x 0
    have z0 := lt_of_heap HST.out.n
    have z1 := lt_of_heap HST.out.s
    have z2 := lt_of_heap HST.out.x
    simp only [List.getElem?_toArray, List.getElem?_cons_zero] at b0 b1 b2
    go_wp2_with fail
    refine region_calm (by kernel_rfl) (by kernel_rfl) ?_
    repeat (quiet_step ((exact later_call (HSZ.out _))))
    refine wpQuiet_nil ?_
    rintro _ ⟨x, rfl⟩
    have HST := Lib.hid (HST.out.keep (X := fun _ => False) (Upd.of_below x.h) id id id id id id (fun _ _ => id) (fun _ _ => id))
    have HDD := Lib.hid ((x.h.block _ (lt_of_heap HDD.out)).trans HDD.out)
    obtain ⟨q1, hq⟩ : ∃ z, W8.heap.size = z := ⟨_, rfl⟩
    have o7q1 : bt < q1 := by rw [← hq]; exact o6
    rw [hq] at HDD ⊢
    clear hq HSZ b0 b1 b2 z0 z1 z2
    generalize x.w = V at HST HDD ⊢
    go_wp2_with fail
    rw [rounds_succ]
    have HX := Lib.hid HST.out.x
    have HS6 := Lib.hid HST.out.s
    have HRS := Lib.hid HST.out.r
    have HL := Lib.hid HST.out.l
    have HB := Lib.hid HST.out.b
    have HDS := Lib.hid (show ∀ e, e ∈ ([q1] : List Nat) → V.heap[e]? = some (.deferred (some [])) from fun e he => by rw [List.mem_singleton] at he; rw [he]; exact HDD.out)
    obtain ⟨W7, hW7⟩ : ∃ Xz, V.alloc (.cells #[.int .i64 0] 3) = Xz := ⟨_, rfl⟩
    obtain ⟨bn, hbn⟩ : ∃ xz, V.heap.size = xz := ⟨_, rfl⟩
    have hb7 : Below V.heap.size V W7 := by rw [← hW7]; exact (Below.refl _ _).alloc (Nat.le_refl _) _
    have HN := Lib.hid (by rw [← hW7, ← hbn]; exact alloc_new rfl : W7.heap[bn]? = some (.cells #[.int .i64 0] 3 (0, 0)))
    have EW7 := Lib.hid hW7
    have Ebn := Lib.hid hbn
    clear hW7 hbn
    obtain ⟨W8, hW8⟩ : ∃ Xz, W7.alloc (.cells #[.int .i32 (-1)] 21) = Xz := ⟨_, rfl⟩
    obtain ⟨bt, hbt⟩ : ∃ xz, W7.heap.size = xz := ⟨_, rfl⟩
    have hb8 : Below W7.heap.size W7 W8 := by rw [← hW8]; exact (Below.refl _ _).alloc (Nat.le_refl _) _
    have HT := Lib.hid (by rw [← hW8, ← hbt]; exact alloc_new rfl : W8.heap[bt]? = some (.cells #[.int .i32 (-1)] 21 (0, 0)))
    have EW8 := Lib.hid hW8
    have Ebt := Lib.hid hbt
    clear hW8 hbt
    have o4 : bl < bn := by rw [← Ebn.out]; exact lt_of_heap HL.out
    have o5 : bn < bt := by rw [← Ebt.out]; exact lt_of_heap HN.out
    have o6 : bt < W8.heap.size := lt_of_heap HT.out
    have hds : ∀ d, d ∈ ([q1] : List Nat) → d < bn ∧ d ≠ br := fun d hd => ⟨by rw [← Ebn.out]; exact lt_of_heap (HDS.out d hd), fun e => by have h1 := HDS.out d hd; rw [e] at h1; have h2 := HRS.out; rw [h1] at h2; cases h2⟩
    have HX := Lib.hid ((hb7.block _ (lt_of_heap HX.out)).trans HX.out)
    have HS6 := Lib.hid ((hb7.block _ (lt_of_heap HS6.out)).trans HS6.out)
    have HRS := Lib.hid ((hb7.block _ (lt_of_heap HRS.out)).trans HRS.out)
    have HL := Lib.hid ((hb7.block _ (lt_of_heap HL.out)).trans HL.out)
    have HB := Lib.hid (chain HB.out hb7)
    have HX := Lib.hid ((hb8.block _ (lt_of_heap HX.out)).trans HX.out)
    have HS6 := Lib.hid ((hb8.block _ (lt_of_heap HS6.out)).trans HS6.out)
    have HRS := Lib.hid ((hb8.block _ (lt_of_heap HRS.out)).trans HRS.out)
    have HL := Lib.hid ((hb8.block _ (lt_of_heap HL.out)).trans HL.out)
    have HN := Lib.hid ((hb8.block _ (lt_of_heap HN.out)).trans HN.out)
    have HB := Lib.hid (chain HB.out hb8)
    have HDS := Lib.hid (fun d hd => by have h1 := HDS.out d hd; have h2 := (hb7.block d (lt_of_heap h1)).trans h1; exact (hb8.block d (lt_of_heap h2)).trans h2 : ∀ d, d ∈ ([q1] : List Nat) → W8.heap[d]? = some (.deferred (some [])))
    have hbt : bn + 1 = bt := by rw [← Ebt.out, ← EW7.out, ← Ebn.out]; simp
    have hzz := HB.out.size
    clear hb7 hb8
    go_wp2_with fail
    rw [EW7.out, EW8.out, Ebn.out, hbt]
    clear hbt
    refine range_outer (w0 := W8) (N := (ra L H len 0).length) (Cap := fun b => b = bl ∨ ∃ x, a = some x ∧ x.block = b ∧ 0 < len) (gf := 79) (lb := #[.pointer (some ⟨bl, 0, none⟩)]) (encs := fun k => #[.int .i32 ((ra L H len 0).getD k 0)]) rfl (Go.Proofs.enters_of Try.func79 (by kernel_rfl) rfl)
      (all_iter W8 bl a len cap L H HL.out (HA.out.below HB.out) TA.out hl) (Below.refl _ _) (fun _ => rfl) ?capc
      (fun k S W => (∀ b, S b ↔ b = bn ∨ b = bt ∨ b = br) ∧ St (ra L H len 0) st w a len cap bx bs br bl bn bt k [q1] W ∧ (k : Int) < st)
      (fun c k S W => (∀ b, S b ↔ b = bn ∨ b = bt ∨ b = br) ∧ St (ra L H len 0) st w a len cap bx bs br bl bn bt (k + 1) [q1] W ∧ ((k + 1 : Nat) : Int) = st ∧ c = .exit 2)
      ?kic ?kxc (fun b => b = bn ∨ b = bt ∨ b = br) ⟨fun b => Iff.rfl, ⟨HN.out, HT.out, HRS.out, HS6.out, HX.out, HL.out, HDS.out, HB.out⟩, by simp; omega⟩ ?s0c ?roundc ?donec ?stopc
    case capc =>
      rintro b (rfl | ⟨x, hx, rfl, hp⟩)
      · exact lt_of_heap HL.out
      · obtain ⟨b, o, hab, hbl, _⟩ := (HA.out.below HB.out).at hp
        rw [hx] at hab
        cases hab
        exact hbl
    case kic =>
      rintro k S A B ⟨hS, hst, hlt⟩ hu
      exact ⟨hS, hst.keep hu (fun h => h.2 ((hS _).2 (.inl rfl))) (fun h => h.2 ((hS _).2 (.inr (.inl rfl)))) (fun h => h.2 ((hS _).2 (.inr (.inr rfl)))) (fun h => by have := h.1; omega) (fun h => by have := h.1; omega) (fun h => by have := h.1; omega) (fun d hd h => by have := h.1; have := hds d hd; omega) (fun b hb h => by have := h.1; omega), hlt⟩
    case kxc =>
      rintro c k S A B ⟨hS, hst, hlt, hc⟩ hu
      exact ⟨hS, hst.keep hu (fun h => h.2 ((hS _).2 (.inl rfl))) (fun h => h.2 ((hS _).2 (.inr (.inl rfl)))) (fun h => h.2 ((hS _).2 (.inr (.inr rfl)))) (fun h => by have := h.1; omega) (fun h => by have := h.1; omega) (fun h => by have := h.1; omega) (fun d hd h => by have := h.1; have := hds d hd; omega) (fun b hb h => by have := h.1; omega), hlt, hc⟩
    case s0c =>
      have hrow : ∀ x, a = some x → 0 < len → x.block < w.heap.size := fun x hx hp => by
        obtain ⟨b, o, hab, hbl, _⟩ := HA.out.at hp
        rw [hx] at hab
        cases hab
        exact hbl
      rintro b (rfl | rfl | rfl)
      · exact ⟨by omega, fun h => h.elim (fun h => by omega) (fun ⟨x, hx, h1, h2⟩ => by have := hrow x hx h2; omega)⟩
      · exact ⟨by omega, fun h => h.elim (fun h => by omega) (fun ⟨x, hx, h1, h2⟩ => by have := hrow x hx h2; omega)⟩
      · exact ⟨by omega, fun h => h.elim (fun h => by omega) (fun ⟨x, hx, h1, h2⟩ => by have := hrow x hx h2; omega)⟩
    case roundc =>
      rintro l k S A hk ⟨hS, hst, hlt⟩ h1 h2 h3 h4 h5 h6
      have hr1 := all_rise TA.out hk
      have hr2 := all_in hk
      have hr3 := all_bounds hk
      have hls := last_succ (ra L H len 0) k
      obtain ⟨r, hr⟩ : ∃ z, (ra L H len 0).getD k 0 = z := ⟨_, rfl⟩
      rw [hr] at hr1 hr2 hr3 hls ⊢
      obtain ⟨R, hcut⟩ := Rt.cut r len TA.out
      have HI := Lib.hid (fun w (h : Row w a len L H) => In_calls a len cap L H r R w h (by omega) hcut)
      rw [InD_cut TA.out hcut, hr2] at HI
      have HLS := Lib.hid hls
      have H6 := Lib.hid h6
      have HSI := Lib.hid hS
      clear hr hr2 hcut hst hls hk h5 h6
      gi_wp2
      refine ⟨Below.refl _ _, fun A2 hu hz hI2 hr2 => ?_⟩
      have HST := Lib.hid hI2.2.1
      clear hI2 hr2 hS
      have b0 := cell_at HST.out.t 0
      have b1 := cell_at HST.out.x 0
      have z0 := lt_of_heap HST.out.t
      have z1 := lt_of_heap HST.out.x
      simp only [List.getElem?_toArray, List.getElem?_cons_zero] at b0 b1
      obtain ⟨la, hla⟩ : ∃ z, last (ra L H len 0) k = z := ⟨_, rfl⟩
      rw [hla] at b0 hr1
      have hr1' : ¬ (r ≤ la) := by omega
      clear hla
      gi_wp2_with fail
      refine ⟨trivial, rfl, (CallsIn.inRound l (callsIn_wide.2 (HI.out A2 (HA.out.below HST.out.b)))).mono ?_⟩
      rintro e A3 ⟨rfl, hb⟩
      have HU3 := Lib.hid (Upd.of_below hb : Upd (fun b => b = bn ∨ b = bt ∨ b = br) A2 A3)
      have HST := Lib.hid (HST.out.keep (X := fun _ => False) (Upd.of_below hb) id id id id id id (fun _ _ => id) (fun _ _ => id))
      clear hb b0 b1 z0 z1
      have b0 := cell_at HST.out.n 0
      have b1 := cell_at HST.out.s 0
      have b2 := cell_at HST.out.t 0
      have z0 := lt_of_heap HST.out.n
      have z1 := lt_of_heap HST.out.s
      have z2 := lt_of_heap HST.out.t
      have f0 := free_at HST.out.n 0
      have f2 := free_at HST.out.t 0
      simp only [List.getElem?_toArray, List.getElem?_cons_zero] at b0 b1 b2
      have hk3 : (k : Int) ≤ 3000 := by omega
      obtain ⟨A4, hA4⟩ : ∃ z, (A3.setCell ⟨bt, 0, none⟩ (.int .i32 r)).setCell ⟨bn, 0, none⟩ (.int .i64 ((k : Int) + 1)) = z := ⟨_, rfl⟩
      obtain ⟨h7, h8⟩ := HST.out.step hA4 HLS.out o0 o1 o2 o3 o4 o5 (fun d hd => by have := hds d hd; omega)
      have HS7 := Lib.hid h7
      have HU4 := Lib.hid (HU3.out.trans h8)
      have EA4 := Lib.hid hA4
      have hA23 := h8.size
      clear h7 h8 hA4 hA23
      by_cases he : (k : Int) + 1 = st
      · have he' : ((k : Int) + 1 == st) = true := by simp [he]
        have HE := Lib.hid he
        clear he
        gi_wp2_with fail
        rw [EA4.out]
        exact ⟨S, ⟨HSI.out, HS7.out, by have := HE.out; omega, rfl⟩, HU4.out.mono (fun b _ h => .inl ((HSI.out b).2 h)), fun b hb => ⟨.inl hb, by have := (H6.out b hb).1; have := HU4.out.size; omega⟩⟩
      · have he' : ((k : Int) + 1 == st) = false := by simp [he]
        have HE := Lib.hid he
        clear he
        gi_wp2_with fail
        rw [EA4.out]
        exact ⟨S, ⟨HSI.out, HS7.out, by have := HE.out; omega⟩, HU4.out.mono (fun b _ h => .inl ((HSI.out b).2 h)), fun b hb => ⟨.inl hb, by have := (H6.out b hb).1; have := HU4.out.size; omega⟩⟩
    case donec =>
      rintro S B ⟨hS, hst, hlt⟩ hD
      have h9 := Nat.le_refl W8.heap.size
      obtain ⟨m, hm⟩ : ∃ z, (ra L H len 0).length = z := ⟨_, rfl⟩
      have HSZ := Lib.hid (fun (x : Later B) => Size_calls a len cap L H x.w (HA.out.below (chain hst.b x.h)) TA.out.len_le)
      rw [← all_len TA.out, hm] at HSZ
      rw [hm] at hst hlt
      have e1 : ((m : Int) != st) = true := by simp; omega
      have HST := Lib.hid hst
      have HDD := Lib.hid hD
      clear hst hD hS hlt hm
      have b0 := cell_at HST.out.n 0
      have b1 := cell_at HST.out.s 0
      have b2 := cell_at HST.out.x 0
      have z0 := lt_of_heap HST.out.n
      have z1 := lt_of_heap HST.out.s
      have z2 := lt_of_heap HST.out.x
      simp only [List.getElem?_toArray, List.getElem?_cons_zero] at b0 b1 b2
      go_wp2_with fail
      refine region_calm (by kernel_rfl) (by kernel_rfl) ?_
      repeat (quiet_step ((exact later_call (HSZ.out _))))
      refine wpQuiet_nil ?_
      rintro _ ⟨x, rfl⟩
      have HST := Lib.hid (HST.out.keep (X := fun _ => False) (Upd.of_below x.h) id id id id id id (fun _ _ => id) (fun _ _ => id))
      have HDD := Lib.hid ((x.h.block _ (lt_of_heap HDD.out)).trans HDD.out)
      obtain ⟨q2, hq⟩ : ∃ z, W8.heap.size = z := ⟨_, rfl⟩
      have o7q2 : bt < q2 := by rw [← hq]; exact o6
      rw [hq] at HDD ⊢
      clear hq HSZ b0 b1 b2 z0 z1 z2
      generalize x.w = V at HST HDD ⊢
      go_wp2_with fail
      rw [rounds_succ]
      have hd0 := hds q1 (List.mem_singleton.2 rfl)
      have hq12 : q2 ≠ q1 := by omega
      have hb1 : br ≠ q1 := Ne.symm hd0.2
      have hb2 : br ≠ q2 := by omega
      go_wp2_with fail
      refine (known_calls V).mono ?_
      rintro e V2 ⟨rfl, hb⟩
      have HST := Lib.hid (HST.out.keep (X := fun _ => False) (Upd.of_below hb) id id id id id id (fun _ _ => id) (fun _ _ => id))
      have HDD := Lib.hid ((hb.block _ (lt_of_heap HDD.out)).trans HDD.out)
      clear hb
      have r0 := cell_at HST.out.r 0
      have rf := free_at HST.out.r 0
      have rz := lt_of_heap HST.out.r
      simp only [List.getElem?_toArray, List.getElem?_cons_zero] at r0
      go_wp2_with fail
      have hd1 := HST.out.d q1 (List.mem_singleton.2 rfl)
      have hd2 := HDD.out
      have hB := HST.out.b
      refine leaves_marks (v := .bool true) [q2, q1] _ (fun d hd => ?_) (by simp [hq12]) (fun w' hu => ⟨?_, rfl, ?_⟩)
      · have hne : d ≠ br := by
          rcases List.mem_cons.1 hd with rfl | hd
          · exact Ne.symm hb2
          · rw [List.mem_singleton] at hd
            rw [hd]
            exact Ne.symm hb1
        rw [Below.heap_setCell _ _ _ _ hne]
        rcases List.mem_cons.1 hd with rfl | hd
        · exact hd2
        · rw [List.mem_singleton] at hd
          rw [hd]
          exact hd1
      · have h0 : w'.cell? ⟨br, 0, none⟩ = some (.bool true) := by
          exact cell_at ((hu.block br (by simp; exact rz) (by simp [hb1, hb2])).trans (heap_set HST.out.r 0 _)) 0
        simp [results, Try.results16, go_sem, h0]
      · have hu' := hu.below (B := w.heap.size) (by simp; exact hB.size) (fun k hk h => by
          simp only [List.mem_cons, List.not_mem_nil, or_false] at h
          omega)
        exact (hB.setCell (by show w.heap.size ≤ br; omega) _).trans hu'
    case stopc =>
      rintro c k S B hk ⟨hS, hst, hlt, rfl⟩ hD
      obtain ⟨m, hm⟩ : ∃ z, k + 1 = z := ⟨_, rfl⟩
      obtain ⟨N, hN⟩ : ∃ z, (ra L H len 0).length = z := ⟨_, rfl⟩
      have HSZ := Lib.hid (fun (x : Later B) => Size_calls a len cap L H x.w (HA.out.below (chain hst.b x.h)) TA.out.len_le)
      rw [← all_len TA.out, hN] at HSZ
      rw [hN] at hk
      rw [hm] at hst hlt
      have e1 : ((m : Int) != st) = false := by simp; omega
      have e2 : ¬ ((N : Int) < m) := by omega
      have HST := Lib.hid hst
      have HDD := Lib.hid hD
      clear hst hD hS hlt hm
      have b0 := cell_at HST.out.n 0
      have b1 := cell_at HST.out.s 0
      have b2 := cell_at HST.out.x 0
      have z0 := lt_of_heap HST.out.n
      have z1 := lt_of_heap HST.out.s
      have z2 := lt_of_heap HST.out.x
      simp only [List.getElem?_toArray, List.getElem?_cons_zero] at b0 b1 b2
      go_wp2_with fail
      refine region_calm (by kernel_rfl) (by kernel_rfl) ?_
      repeat (quiet_step ((exact later_call (HSZ.out _))))
      refine wpQuiet_nil ?_
      rintro _ ⟨x, rfl⟩
      have HST := Lib.hid (HST.out.keep (X := fun _ => False) (Upd.of_below x.h) id id id id id id (fun _ _ => id) (fun _ _ => id))
      have HDD := Lib.hid ((x.h.block _ (lt_of_heap HDD.out)).trans HDD.out)
      obtain ⟨q2, hq⟩ : ∃ z, W8.heap.size = z := ⟨_, rfl⟩
      have o7q2 : bt < q2 := by rw [← hq]; exact o6
      rw [hq] at HDD ⊢
      clear hq HSZ b0 b1 b2 z0 z1 z2
      generalize x.w = V at HST HDD ⊢
      go_wp2_with fail
      rw [rounds_succ]
      have hd0 := hds q1 (List.mem_singleton.2 rfl)
      have hq12 : q2 ≠ q1 := by omega
      have hb1 : br ≠ q1 := Ne.symm hd0.2
      have hb2 : br ≠ q2 := by omega
      go_wp2_with fail
      refine (known_calls V).mono ?_
      rintro e V2 ⟨rfl, hb⟩
      have HST := Lib.hid (HST.out.keep (X := fun _ => False) (Upd.of_below hb) id id id id id id (fun _ _ => id) (fun _ _ => id))
      have HDD := Lib.hid ((hb.block _ (lt_of_heap HDD.out)).trans HDD.out)
      clear hb
      have r0 := cell_at HST.out.r 0
      have rf := free_at HST.out.r 0
      have rz := lt_of_heap HST.out.r
      simp only [List.getElem?_toArray, List.getElem?_cons_zero] at r0
      go_wp2_with fail
      have hd1 := HST.out.d q1 (List.mem_singleton.2 rfl)
      have hd2 := HDD.out
      have hB := HST.out.b
      refine leaves_marks (v := .bool true) [q2, q1] _ (fun d hd => ?_) (by simp [hq12]) (fun w' hu => ⟨?_, rfl, ?_⟩)
      · have hne : d ≠ br := by
          rcases List.mem_cons.1 hd with rfl | hd
          · exact Ne.symm hb2
          · rw [List.mem_singleton] at hd
            rw [hd]
            exact Ne.symm hb1
        rw [Below.heap_setCell _ _ _ _ hne]
        rcases List.mem_cons.1 hd with rfl | hd
        · exact hd2
        · rw [List.mem_singleton] at hd
          rw [hd]
          exact hd1
      · have h0 : w'.cell? ⟨br, 0, none⟩ = some (.bool true) := by
          exact cell_at ((hu.block br (by simp; exact rz) (by simp [hb1, hb2])).trans (heap_set HST.out.r 0 _)) 0
        simp [results, Try.results16, go_sem, h0]
      · have hu' := hu.below (B := w.heap.size) (by simp; exact hB.size) (fun k hk h => by
          simp only [List.mem_cons, List.not_mem_nil, or_false] at h
          omega)
        exact (hB.setCell (by show w.heap.size ≤ br; omega) _).trans hu'
end Go.Proofs.Ytgddlcbaieclcaa.spansAll
