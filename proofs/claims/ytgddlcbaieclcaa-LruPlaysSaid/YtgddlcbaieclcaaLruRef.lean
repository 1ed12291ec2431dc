/-
  The list that the law LruPlays keeps beside a cache: how it lies in memory, find, and append of a slice.
-/
import Derived.Test.YtgddlcbaieclcaaLruAcc
import Derived.Laws.AppendOwn
import Derived.Laws.AppendOwnNone
namespace Go.Proofs.Ytgddlcbaieclcaa.LruRef
open Go Go.RowKit Go.Proofs.Ytgddlcbaieclcaa.Kit Go.Proofs.Ytgddlcbaieclcaa.Maps Go.Proofs.Ytgddlcbaieclcaa.LruK Go.Proofs.Ytgddlcbaieclcaa.LrugetK Go.Proofs.Ytgddlcbaieclcaa.LruabsK
attribute [local irreducible] wpQuiet

theorem grown_below {B w w' : World} {row : Option Nat} (h : Below B.heap.size B w) (hg : w.grownBy w' row) (hr : ∀ k, row = some k → B.heap.size ≤ k) : Below B.heap.size B w' :=
  ⟨hg.os.trans h.os, hg.tape.trans h.tape, hg.output.trans h.output, Nat.le_trans h.size hg.size, fun i hi => by
    rw [hg.block i (Nat.lt_of_lt_of_le hi h.size) (fun e => by have := hr i e.symm; omega), h.block i hi]⟩

/-- append of a slice, nil or not, to one that was made behind a world B. -/
theorem wp_append_from {P : Program} {w : World} {o : Oper} {a : Act} {K : Act → World → Prop} {Q : Exit → Act → World → Prop} (s x : Operand) (t : TypeId)
    (ho : o.op = .call { callee := .builtin .append, args := #[s, x], argTypes := #[t, t] })
    (B : World) (hB : Below B.heap.size B w) (e : TypeId) (i : TypeInfo) (z : Value) (size bytes : Nat) (ht : P.underlying t = some (.slice e)) (hi : P.info? e = some i) (hz : i.zero = some z)
    (hsize : i.size = size) (hby : i.bytes = bytes) (hzs : z.cells.size = size) (hsz : 0 < size)
    (v : Value) (n : Nat) (xs : List Value) (hs : a.eval s = v) (hown : w.ownsRow B.heap.size e size v n xs)
    (src : Option Addr) (m c : Nat) (news : List Value) (hx : a.eval x = .slice src m c) (h0 : src = none → m = 0 ∧ c = 0) (hl : news.length = m * size) (hnews : ∀ ad, src = some ad → ∀ (j : Nat) u, news[j]? = some u → w.cell? (ad.add j) = some u) (h1 : ∀ u ∈ news, u.oneCell' = true)
    (h63 : n + m ≤ maxLen) (hbytes : (n + m) * bytes ≤ 140737488355328)
    (h : ∀ v' w', w'.ownsRow B.heap.size e size v' (n + m) (xs ++ news) → Below B.heap.size B w' → K (a.put o.dst v') w') : o.wp P a w K Q := by
  cases src with
  | none =>
    obtain ⟨rfl, rfl⟩ := h0 rfl
    obtain rfl : news = [] := List.eq_nil_of_length_eq_zero (by omega)
    have hrun := run_append_owned_none (P := P) (w := w) B.heap.size t o.type e i size ht hi v n xs hown
    unfold Oper.wp
    simp [execOp, ho, resolve, invoke, builtin, hs, hx, hrun, Result.andThen]
    exact h v w (by simpa using hown) hB
  | some ad => exact wp_append_own w s x t ho B.heap.size e i z size bytes ht hi hz hsize hby hzs hsz v n xs hs hown ad m c news hx hl (hnews ad rfl) h1 h63 hbytes hB.size (fun v' w' a b _ => h v' w' a (grown_below hB b (fun k hk => (hown.lt k hk).1)))

theorem append_from {P : Program} {w : World} {ops : Array Oper} {rest : List Oper} {o : Oper} {a : Act} {Q : Exit → Act → World → Prop} (hgd : o.guard = none) (s x : Operand) (t : TypeId)
    (ho : o.op = .call { callee := .builtin .append, args := #[s, x], argTypes := #[t, t] })
    (B : World) (hB : Below B.heap.size B w) (e : TypeId) (i : TypeInfo) (z : Value) (size bytes : Nat) (ht : P.underlying t = some (.slice e)) (hi : P.info? e = some i) (hz : i.zero = some z)
    (hsize : i.size = size) (hby : i.bytes = bytes) (hzs : z.cells.size = size) (hsz : 0 < size)
    (v : Value) (n : Nat) (xs : List Value) (hs : a.eval s = v) (hown : w.ownsRow B.heap.size e size v n xs)
    (src : Option Addr) (m c : Nat) (news : List Value) (hx : a.eval x = .slice src m c) (h0 : src = none → m = 0 ∧ c = 0) (hl : news.length = m * size) (hnews : ∀ ad, src = some ad → ∀ (j : Nat) u, news[j]? = some u → w.cell? (ad.add j) = some u) (h1 : ∀ u ∈ news, u.oneCell' = true)
    (h63 : n + m ≤ maxLen) (hbytes : (n + m) * bytes ≤ 140737488355328)
    (h : ∀ v' w', w'.ownsRow B.heap.size e size v' (n + m) (xs ++ news) → Below B.heap.size B w' → wpList P ops Q rest (a.put o.dst v') w') : wpList P ops Q (o :: rest) a w :=
  wpList_plain hgd fun _ hK => wp_append_from s x t ho B hB e i z size bytes ht hi hz hsize hby hzs hsz v n xs hs hown src m c news hx h0 hl hnews h1 h63 hbytes fun v' w' h2 h3 => hK _ _ (h v' w' h2 h3)

theorem own_one (w : World) (e : TypeId) (x y z : Value) : (w.alloc (.cells #[x, y, z] e)).ownsRow w.heap.size e 3 (.slice (some ⟨w.heap.size, 0, none⟩) 1 1) 1 [x, y, z] :=
  ⟨rfl, .inr ⟨w.heap.size, 1, #[x, y, z], rfl, Nat.le_refl _, alloc_new rfl, Nat.le_refl _, by decide, rfl, rfl⟩⟩
theorem own_nil (w : World) (e : TypeId) : (w.alloc (.cells #[] e)).ownsRow w.heap.size e 3 (.slice (some ⟨w.heap.size, 0, none⟩) 0 0) 0 [] := World.ownsRow_made w #[] 0 (Nat.le_refl _) (Nat.zero_le _) (by simp)

theorem info3 : (Try.prog.info? 79).map (fun i => (i.zero, i.size, i.bytes)) = some (some (.agg #[.int .i64 0, .int .i64 0, .int .i64 0]), 3, 24) := by kernel_rfl

theorem cmp (a b : Ky) (w : World) : (Go.binOp .eql 73 (.agg #[.int .i64 a.1, .int .i64 a.2]) (.agg #[.int .i64 b.1, .int .i64 b.2])).run Try.prog w = .ok (.bool (decide (a = b))) w := by
  have h := two_equal (P := Try.prog) (T := 73) (f0 := (Try.prog.fieldsOf 73)[0]!) (f1 := (Try.prog.fieldsOf 73)[1]!) (by kernel_rfl) (by kernel_rfl) (by kernel_rfl) (fun x y w => by kernel_rfl) (fun x y w => by kernel_rfl) (by decide +kernel) (by decide +kernel) (by kernel_rfl) (by kernel_rfl) a b w
  simp [Go.binOp, h]

abbrev En3 := Ky × Int

def fl (L : List En3) : List Value := L.flatMap fun e => [.int .i64 e.1.1, .int .i64 e.1.2, .int .i64 e.2]

theorem fl_len (L : List En3) : (fl L).length = L.length * 3 := by
  induction L with
  | nil => rfl
  | cons e L ih => simp only [fl, List.flatMap_cons, List.length_append, List.length_cons, List.length_nil] at ih ⊢; omega
theorem fl_app (A B : List En3) : fl (A ++ B) = fl A ++ fl B := by simp [fl]
theorem fl_one (L : List En3) : ∀ u ∈ fl L, u.oneCell' = true := by
  intro u hu
  obtain ⟨e, _, he⟩ := List.mem_flatMap.1 hu
  simp only [List.mem_cons, List.not_mem_nil, or_false] at he
  rcases he with rfl | rfl | rfl <;> rfl
theorem fl_at (A : List En3) (e : En3) (B : List En3) : (fl (A ++ e :: B))[A.length * 3]? = some (.int .i64 e.1.1) ∧ (fl (A ++ e :: B))[A.length * 3 + 1]? = some (.int .i64 e.1.2) ∧ (fl (A ++ e :: B))[A.length * 3 + 2]? = some (.int .i64 e.2) := by
  have h : fl (e :: B) = [.int .i64 e.1.1, .int .i64 e.1.2, .int .i64 e.2] ++ fl B := rfl
  rw [fl_app, h, ← fl_len]
  refine ⟨?_, ?_, ?_⟩
  · rw [List.getElem?_append_right (Nat.le_refl _), Nat.sub_self]; rfl
  · rw [List.getElem?_append_right (by omega), show (fl A).length + 1 - (fl A).length = 1 by omega]; rfl
  · rw [List.getElem?_append_right (by omega), show (fl A).length + 2 - (fl A).length = 2 by omega]; rfl

/-- The law's list in memory. -/
def RRow (w : World) (a : Option Addr) (L : List En3) (cap : Nat) : Prop :=
  L.length ≤ cap ∧ cap ≤ maxLen ∧ ((a = none ∧ L = [] ∧ cap = 0) ∨ ∃ b, a = some ⟨b, 0, none⟩ ∧ b < w.heap.size ∧ ∀ (j : Nat) u, (fl L)[j]? = some u → w.cell? ⟨b, j, none⟩ = some u)

theorem RRow.keep {w w' : World} {a : Option Addr} {L : List En3} {cap : Nat} (h : RRow w a L cap) (hs : w.heap.size ≤ w'.heap.size) (hb : ∀ x, a = some x → x.block < w.heap.size → w'.heap[x.block]? = w.heap[x.block]?) : RRow w' a L cap := by
  refine ⟨h.1, h.2.1, ?_⟩
  rcases h.2.2 with h | ⟨b, rfl, hl, hc⟩
  · exact .inl h
  · have h1 := hb _ rfl hl
    have h2 : ∀ o, w'.cell? ⟨b, o, none⟩ = w.cell? ⟨b, o, none⟩ := fun o => World.cell?_of_block (a := ⟨b, o, none⟩) h1
    exact .inr ⟨b, rfl, by omega, fun j u hu => by rw [h2]; exact hc j u hu⟩
theorem RRow.below {w w' : World} {a : Option Addr} {L : List En3} {cap : Nat} (h : RRow w a L cap) (hb : Below w.heap.size w w') : RRow w' a L cap := h.keep hb.size (fun _ _ hx => hb.block _ hx)
theorem RRow.upd {S : Nat → Prop} {w w' : World} {a : Option Addr} {L : List En3} {cap : Nat} (h : RRow w a L cap) (hb : Upd S w w') (hn : ∀ x, a = some x → ¬ S x.block) : RRow w' a L cap := h.keep hb.size (fun _ hx hl => hb.block _ hl (hn _ hx))
theorem RRow.at {w : World} {a : Option Addr} {A B : List En3} {e : En3} {cap : Nat} (h : RRow w a (A ++ e :: B) cap) : ∃ b, a = some ⟨b, 0, none⟩ ∧ b < w.heap.size ∧ w.cell? ⟨b, A.length * 3, none⟩ = some (.int .i64 e.1.1) ∧ w.cell? ⟨b, A.length * 3 + 1, none⟩ = some (.int .i64 e.1.2) ∧ w.cell? ⟨b, A.length * 3 + 2, none⟩ = some (.int .i64 e.2) := by
  rcases h.2.2 with h | ⟨b, rfl, hl, hc⟩
  · simp at h
  · obtain ⟨h0, h1, h2⟩ := fl_at A e B
    exact ⟨b, rfl, hl, hc _ _ h0, hc _ _ h1, hc _ _ h2⟩
theorem RRow.take {w : World} {a : Option Addr} {A B : List En3} {cap : Nat} (h : RRow w a (A ++ B) cap) : RRow w a A cap := by
  have h1 := h.1
  rw [List.length_append] at h1
  refine ⟨by omega, h.2.1, ?_⟩
  rcases h.2.2 with ⟨rfl, hn, rfl⟩ | ⟨b, rfl, hl, hc⟩
  · exact .inl ⟨rfl, (List.append_eq_nil_iff.1 hn).1, rfl⟩
  · refine .inr ⟨b, rfl, hl, fun j u hu => hc j u ?_⟩
    rw [fl_app, List.getElem?_append_left (List.getElem?_eq_some_iff.1 hu).1]
    exact hu
theorem RRow.of_owns {w : World} {base : Nat} {t : TypeId} {v : Value} {n : Nat} {L : List En3} (h : w.ownsRow base t 3 v n (fl L)) (hn : n = L.length) :
    ∃ a cap, v = .slice a L.length cap ∧ RRow w a L cap ∧ (∀ x, a = some x → base ≤ x.block) := by
  subst hn
  rcases h.2 with ⟨rfl, h0⟩ | ⟨g, cap, cur, rfl, hb, hg, hn, hm, hs, ht⟩
  · obtain rfl := List.eq_nil_of_length_eq_zero h0
    exact ⟨none, 0, rfl, ⟨Nat.le_refl _, Nat.zero_le _, .inl ⟨rfl, rfl, rfl⟩⟩, fun x hx => (by cases hx)⟩
  · have hlt : g < w.heap.size := lt_of_heap hg
    have hc := h.cells (g := g) rfl
    simp only [add_plain, Nat.zero_add] at hc
    exact ⟨some ⟨g, 0, none⟩, cap, rfl, ⟨hn, hm, .inr ⟨g, rfl, hlt, hc⟩⟩, fun x hx => (by cases hx; exact hb)⟩

theorem RRow.h0 {w : World} {a : Option Addr} {L : List En3} {cap : Nat} (h : RRow w a L cap) : a = none → L.length = 0 ∧ cap = 0 := by
  rintro rfl
  rcases h.2.2 with ⟨_, rfl, rfl⟩ | ⟨b, hb, _⟩
  · exact ⟨rfl, rfl⟩
  · cases hb
theorem RRow.news {w : World} {a : Option Addr} {L : List En3} {cap : Nat} (h : RRow w a L cap) : ∀ ad, a = some ad → ∀ (j : Nat) u, (fl L)[j]? = some u → w.cell? (ad.add j) = some u := by
  rintro ad rfl j u hu
  rcases h.2.2 with ⟨h, _⟩ | ⟨b, hb, _, hc⟩
  · cases h
  · cases hb
    rw [add_plain, Nat.zero_add]
    exact hc j u hu
/-- What lies behind an element. -/
theorem RRow.rest {w : World} {b : Nat} {A B : List En3} {e : En3} {cap : Nat} (h : RRow w (some ⟨b, 0, none⟩) (A ++ e :: B) cap) : ∀ ad, (if cap = A.length + 1 then some (⟨b, 0, none⟩ : Addr) else some ⟨b, (A.length + 1) * 3, none⟩) = some ad → ∀ (j : Nat) u, (fl B)[j]? = some u → w.cell? (ad.add j) = some u := by
  intro ad had j u hu
  have hj := (List.getElem?_eq_some_iff.1 hu).1
  rw [fl_len] at hj
  have h1 := h.1
  rw [List.length_append, List.length_cons] at h1
  rw [if_neg (by omega)] at had
  cases had
  rcases h.2.2 with ⟨h, _⟩ | ⟨b, hb, _, hc⟩
  · cases h
  · cases hb
    rw [add_plain]
    have h2 : A ++ e :: B = (A ++ [e]) ++ B := by simp
    refine hc _ u ?_
    rw [h2, fl_app, show (A.length + 1) * 3 = (fl (A ++ [e])).length by rw [fl_len, List.length_append]; rfl, List.getElem?_append_right (by omega), Nat.add_sub_cancel_left]
    exact hu

/-- find's answer. -/
def Found (L : List En3) (k : Ky) (r : Int) : Prop := (k ∉ L.map (·.1) ∧ r = -1) ∨ ∃ A v B, L = A ++ (k, v) :: B ∧ k ∉ A.map (·.1) ∧ r = A.length

theorem split_at {L : List En3} {i : Nat} (h : i < L.length) : ∃ e, L = L.take i ++ e :: L.drop (i + 1) ∧ (L.take i).length = i ∧ L.take (i + 1) = L.take i ++ [e] := by
  refine ⟨L[i], ?_, by simp; omega, ?_⟩
  · rw [← List.drop_eq_getElem_cons h, List.take_append_drop]
  · rw [List.take_add_one, List.getElem?_eq_getElem h]; rfl

set_option maxHeartbeats 1000000 in
set_option maxRecDepth 100000 in
theorem find_calls (a : Option Addr) (cap : Nat) (L : List En3) (k : Ky) (w : World) (hr : RRow w a L cap) :
    Calls Try.prog 42 #[.slice a L.length cap, .agg #[.int .i64 k.1, .int .i64 k.2]] w fun x w' => ∃ r, x = .returned (.int .i64 r) ∧ Found L k r ∧ Below w.heap.size w w' := by
  have hlm : L.length ≤ 9223372036854775807 := by have := Nat.le_trans hr.1 hr.2.1; unfold maxLen at this; omega
  have HR := Lib.hid hr
  clear hr
  go_enter Try.func42, Try.ntmps42
  obtain ⟨W1, hW1⟩ : ∃ W1, w.alloc (.cells #[.int .i64 k.1, .int .i64 k.2] 73) = W1 := ⟨_, rfl⟩
  have hx1 : W1.heap[w.heap.size]? = some (.cells #[.int .i64 k.1, .int .i64 k.2] 73 (0, 0)) := by rw [← hW1]; exact alloc_new rfl
  have HB1 := Lib.hid (show Below w.heap.size w W1 by rw [← hW1]; exact (Below.refl _ _).alloc (Nat.le_refl _) _)
  obtain ⟨bx, hbx⟩ : ∃ bx, w.heap.size = bx := ⟨_, rfl⟩
  have HX1 := Lib.hid (hbx ▸ hx1 : W1.heap[bx]? = some (.cells #[.int .i64 k.1, .int .i64 k.2] 73 (0, 0)))
  clear hx1
  go_wp2_with fail
  clear hW1 hbx
  go_loopg [5] L.length (fun g s5 wr => ∃ i : Nat, i ≤ L.length ∧ g = L.length - i ∧ s5 = .int .i64 i ∧ k ∉ (L.take i).map (·.1) ∧ Below W1.heap.size W1 wr)
  case atStart => exact ⟨0, Nat.zero_le _, by omega, rfl, by simp, Below.refl _ _⟩
  case round =>
    obtain ⟨i, hk, hg, rfl, hno, hbw⟩ := hrel
    have HG := Lib.hid hg
    have HNO := Lib.hid hno
    have HBW := Lib.hid hbw
    clear hg hno hbw
    by_cases hlt : i < L.length
    · obtain ⟨e, he, hti, htk⟩ := split_at hlt
      have HR2 := (HR.out.below HB1.out).below HBW.out
      rw [he] at HR2
      obtain ⟨b, rfl, hb1, c0, c1, c2⟩ := HR2.at
      rw [hti] at c0 c1
      have HE := Lib.hid he
      have HTK := Lib.hid htk
      have HTI := Lib.hid hti
      have hxx := (HBW.out.block bx (lt_of_heap HX1.out)).trans HX1.out
      have d0 := cell_at hxx 0
      have d1 := cell_at hxx 1
      simp only [List.getElem?_toArray, List.getElem?_cons_zero, List.getElem?_cons_succ] at d0 d1
      have zx := lt_of_heap hxx
      have hi : (i : Int) < L.length := by omega
      clear he hti htk c2 HR2 hxx
      by_cases hq : e.1 = k
      · have q0 : e.1.1 = k.1 := by rw [hq]
        have q1 : e.1.2 = k.2 := by rw [hq]
        rw [q0] at c0
        rw [q1] at c1
        have HQ := Lib.hid hq
        clear hq q0 q1
        go_wp2
        refine region_calm (by kernel_rfl) (by kernel_rfl) ?_
        repeat (quiet_step ((fail)))
        refine wpQuiet_nil ?_
        rintro _ ⟨x, rfl⟩
        go_wp2
        go_ret
        refine ⟨_, rfl, .inr ⟨L.take i, e.2, L.drop (i + 1), ?_, HNO.out, by rw [HTI.out]⟩, Later.chain (chain HB1.out HBW.out) x⟩
        have h1 := HE.out
        rw [show e = (k, e.2) by rw [← HQ.out]] at h1
        exact h1
      · have hcm := cmp e.1 k
        rw [decide_eq_false hq] at hcm
        have HQ := Lib.hid hq
        clear hq
        go_wp2
        refine region_calm (by kernel_rfl) (by kernel_rfl) ?_
        repeat (quiet_step ((fail)))
        refine wpQuiet_nil ?_
        rintro _ ⟨x, rfl⟩
        go_wp2
        go_roundg (gk - 1)
        case measure => have := HG.out; omega
        case rel =>
          refine ⟨i + 1, by omega, by have := HG.out; omega, by go_num, ?_, Later.chain HBW.out x⟩
          rw [HTK.out, List.map_append, List.mem_append, not_or]
          refine ⟨HNO.out, ?_⟩
          simp only [List.map_cons, List.map_nil, List.mem_cons, List.not_mem_nil, or_false]
          exact fun h => HQ.out h.symm
    · have hkn : i = L.length := by omega
      subst hkn
      go_wp2
      go_ret
      exact ⟨_, rfl, .inl ⟨by have := HNO.out; rwa [List.take_length] at this, rfl⟩, chain HB1.out HBW.out⟩
end Go.Proofs.Ytgddlcbaieclcaa.LruRef
