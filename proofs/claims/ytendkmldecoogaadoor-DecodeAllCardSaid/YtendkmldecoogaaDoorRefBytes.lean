/-
  Bytes that are put behind one another; tesseraref18.Bytes, tesseraref2.Replace, tesseraref2.Tail.
-/
import Derived.Test.YtendkmldecoogaaDoorDecodeT
import Derived.Test.YtendkmldecoogaaDoorRef2c
import Derived.Test.YtendkmldecoogaaDoorRgu
import Derived.Lib.AppendStr
namespace Go.Proofs.YtendkmldecoogaaDoor.RefBytes
open Go Go.RowKit Go.Lib Go.Proofs.YtendkmldecoogaaDoor.Kit Go.Proofs.YtendkmldecoogaaDoor.Round Go.Proofs.YtendkmldecoogaaDoor.Utf Go.Proofs.YtendkmldecoogaaDoor.It Go.Proofs.YtendkmldecoogaaDoor.Dt Go.Proofs.YtendkmldecoogaaDoor.MoNew Go.Proofs.YtendkmldecoogaaDoor.Good Go.Proofs.YtendkmldecoogaaDoor.ItGo Go.Proofs.YtendkmldecoogaaDoor.Ref2a Go.Proofs.YtendkmldecoogaaDoor.Ref2b Go.Proofs.YtendkmldecoogaaDoor.Ref2c Go.Proofs.YtendkmldecoogaaDoor.Ref5a Go.Proofs.YtendkmldecoogaaDoor.UtfLaw Go.Proofs.YtendkmldecoogaaDoor.Decode
attribute [local irreducible] wpQuiet

/-- Bytes in a row of the call's own. -/
def BRow (w : World) (base : Nat) (v : Value) (l : List UInt8) : Prop := w.ownsRow base 5 1 v l.length (l.map fun b => Value.int .u8 b.toNat)

theorem append_run2 {P : Program} {t u : TypeId} {w w' : World} {ops : Array Oper} {rest : List Oper} {o : Oper} {a : Act} {Q : Exit → Act → World → Prop} {x : Operand} {s : Operand} {v xv v' : Value} (hg : o.guard = none)
    (hop : o.op = Op.call { callee := Callee.builtin Builtin.append, args := #[s, x], argTypes := #[t, u] }) (hs : a.eval s = v) (hx : a.eval x = xv) (hrun : (Builtin.append_ #[t, u] o.type #[v, xv]).run P w = .ok v' w')
    (h : wpList P ops Q rest (a.put o.dst v') w') : wpList P ops Q (o :: rest) a w :=
  wpList_plain hg fun K hK' => by
    unfold Oper.wp execOp
    simp only [hop, resolve, invoke, builtin, Sem.run_bind, Sem.run_pure, Result.andThen_ok, List.map_toArray, List.map_cons, List.map_nil, hs, hx, hrun]
    exact hK' _ _ h

theorem BRow.nil (w : World) (base : Nat) : BRow w base (.slice none 0 0) [] := World.ownsRow_nil w base _ 1
theorem BRow.below {w w' : World} {base : Nat} {v : Value} {l : List UInt8} (h : BRow w base v l) (hb : Below w.heap.size w w') : BRow w' base v l := by
  refine ⟨h.1, ?_⟩
  rcases h.2 with h | ⟨g, cap, cur, rfl, h1, h2, h3⟩
  · exact .inl h
  · exact .inr ⟨g, cap, cur, rfl, h1, (hb.block g (lt_of_heap h2)).trans h2, h3⟩
theorem grown_below {B w w' : World} {row : Option Nat} (h : Below B.heap.size B w) (hg : w.grownBy w' row) (hr : ∀ k, row = some k → B.heap.size ≤ k) : Below B.heap.size B w' :=
  ⟨hg.os.trans h.os, hg.tape.trans h.tape, hg.output.trans h.output, Nat.le_trans h.size hg.size, fun i hi => by
    rw [hg.block i (Nat.lt_of_lt_of_le hi h.size) (fun e => by have := hr i e.symm; omega), h.block i hi]⟩

/-- A text is put behind. -/
theorem BRow.str {w0 A : World} {v : Value} {l : List UInt8} (hb0 : Below w0.heap.size w0 A) (h : BRow A w0.heap.size v l) (s : ByteArray) (hn : l.length + s.size ≤ 100000000000) (ty : TypeId) :
    ∃ v' A', (Builtin.append_ #[35, 9] ty #[v, .string s]).run Tryd.prog A = .ok v' A' ∧ BRow A' w0.heap.size v' (l ++ s.data.toList) ∧ Below w0.heap.size w0 A' := by
  have hi0 : (Tryd.prog.info? 5).map (fun i => (i.zero, i.size, i.bytes)) = some (some (.int .u8 0), 1, 1) := by kernel_rfl
  obtain ⟨i, hi, hz, hs, hb⟩ := info_parts hi0
  obtain ⟨v', A', h1, h2, h3, _⟩ := run_append_own_string (P := Tryd.prog) A w0.heap.size 35 9 ty 5 i Tryd.underlying35 Tryd.underlying9 hi hz hs hb v l.length _ h s (by unfold maxLen; omega) (by omega) hb0.size
  refine ⟨v', A', h1, ?_, grown_below hb0 h3 (fun k hk => (h.lt k hk).1)⟩
  unfold BRow
  rw [List.length_append, List.map_append, size_list]
  exact h2

/-- Cells are put behind. -/
theorem BRow.row {w0 A : World} {v : Value} {l m : List UInt8} (hb0 : Below w0.heap.size w0 A) (h : BRow A w0.heap.size v l) {bb : Nat} (hg : A.heap[bb]? = some (.cells (m.map fun b => Value.int .u8 b.toNat).toArray 5 (0, 0))) (hn : l.length + m.length ≤ 100000000000) (ty : TypeId) (k : Nat) (hk : k = m.length) :
    ∃ v' A', (Builtin.append_ #[35, 35] ty #[v, .slice (some ⟨bb, 0, none⟩) k k]).run Tryd.prog A = .ok v' A' ∧ BRow A' w0.heap.size v' (l ++ m) ∧ Below w0.heap.size w0 A' := by
  subst hk
  have hi0 : (Tryd.prog.info? 5).map (fun i => (i.zero, i.size, i.bytes)) = some (some (.int .u8 0), 1, 1) := by kernel_rfl
  obtain ⟨i, hi, hz, hs, hb⟩ := info_parts hi0
  obtain ⟨v', A', h1, h2, h3, _⟩ := run_append_own (P := Tryd.prog) A w0.heap.size 35 ty 5 i _ 1 1 Tryd.underlying35 hi hz hs hb rfl (by decide) v l.length _ h ⟨bb, 0, none⟩ m.length m.length (m.map fun b => Value.int .u8 b.toNat) (by simp) (fun j u hu => by
    rw [add_plain, cell_at hg, Nat.zero_add]
    simpa using hu) (fun u hu => by
    obtain ⟨b, _, rfl⟩ := List.mem_map.1 hu
    rfl) (by unfold maxLen; omega) (by omega) hb0.size
  refine ⟨v', A', h1, ?_, grown_below hb0 h3 (fun k hk => (h.lt k hk).1)⟩
  unfold BRow
  rw [List.length_append, List.map_append]
  exact h2

/-- As a text. -/
theorem BRow.text {w : World} {base : Nat} {v : Value} {l : List UInt8} (h : BRow w base v l) : (convert 35 9 v).run Tryd.prog w = .ok (.string ⟨l.toArray⟩) w := by
  rcases h.2 with ⟨rfl, h0⟩ | ⟨g, cap, cur, rfl, h1, h2, _, _, _, h3⟩
  · obtain rfl : l = [] := List.length_eq_zero_iff.1 h0
    exact run_convert_bytes_nil (P := Tryd.prog) w 35 5 Tryd.underlying35 Tryd.underlying5 0 0 9 Tryd.underlying9
  · exact run_convert_bytes_back (P := Tryd.prog) w 35 9 5 ⟨g, 0, none⟩ cap l Tryd.underlying35 Tryd.underlying5 Tryd.underlying9 (fun j hj => by
      rw [add_plain, cell_at h2, Nat.zero_add]
      have h4 : (cur.toList.take (l.length * 1))[j]? = (l.map fun b => Value.int .u8 b.toNat)[j]? := by rw [h3]
      rw [List.getElem?_take, if_pos (by omega)] at h4
      simpa [hj] using h4)

theorem Tail_calls (s : ByteArray) (w : World) (hs : s.size ≤ 100000000000) :
    Calls Tryd.prog 47 #[.string s] w fun e w' => e = .returned (.int .i64 (tailN s.data.toList)) ∧ Below w.heap.size w w' := by
  have HC := Lib.hid (Complete_calls s w hs)
  have hc := (comp_items s.data.toList 0).2.1
  have hl := size_list s
  have ht : ((tailN s.data.toList : Nat) : Int) = s.size - (comp 0 s.data.toList).2 := by unfold tailN; omega
  rw [ht]
  obtain ⟨C, hC⟩ : ∃ C, comp 0 s.data.toList = C := ⟨_, rfl⟩
  rw [hC] at HC hc ⊢
  obtain ⟨L, n⟩ := C
  have hw : IntKind.i64.wrap ((s.size : Int) - n) = (s.size : Int) - n := i64w _ (by simp only at hc; omega) (by omega)
  clear hC ht
  go_enter Tryd.func47, Tryd.ntmps47
  go_wp2_with fail
  refine HC.out.mono ?_
  rintro e W1 ⟨v, rfl, _, hb⟩
  have HB := Lib.hid hb
  clear hb
  go_wp2_with fail
  go_ret
  exact ⟨rfl, HB.out⟩

theorem part_list (s : ByteArray) (a b : Nat) : (s.extract a b).data.toList = (s.data.toList.drop a).take (b - a) := by
  rw [ByteArray.data_extract, Array.toList_extract, List.extract_eq_take_drop]

/-- Three bytes that have just been laid are put behind. -/
theorem BRow.three {w0 A : World} {v : Value} {l : List UInt8} (hb0 : Below w0.heap.size w0 A) (h : BRow A w0.heap.size v l) (hn : l.length ≤ 99999999000) (ty : TypeId) :
    ∃ v' A', (Builtin.append_ #[35, 35] ty #[v, .slice (some ⟨A.heap.size, 0, none⟩) 3 3]).run Tryd.prog (A.alloc (.cells #[.int .u8 239, .int .u8 191, .int .u8 189] 5)) = .ok v' A' ∧ BRow A' w0.heap.size v' (l ++ [239, 191, 189]) ∧ Below w0.heap.size w0 A' := by
  have hb : Below A.heap.size A (A.alloc (.cells #[.int .u8 239, .int .u8 191, .int .u8 189] 5)) := (Below.refl _ _).alloc (Nat.le_refl _) _
  exact BRow.row (m := [239, 191, 189]) (hb0.alloc hb0.size _) (h.below hb) (alloc_new rfl) (by simp; omega) ty 3 rfl

set_option maxHeartbeats 2000000 in
set_option maxRecDepth 100000 in
theorem Replace_calls (s : ByteArray) (w : World) (hs : s.size ≤ 10000000000) :
    Calls Tryd.prog 46 #[.string s] w fun e w' => e = .returned (.string ⟨(rep s.data.toList).toArray⟩) ∧ Below w.heap.size w w' := by
  have hsl := size_list s
  go_enter Tryd.func46, Tryd.ntmps46
  go_wp2_with fail
  go_loopg [3, 4, 5] s.size (fun g s3 s4 s5 wr => ∃ (pos : Nat) (l : List UInt8), pos ≤ s.size ∧ g = s.size - pos ∧ s4 = .int .i64 pos ∧ BRow wr w.heap.size s3 l ∧ Below w.heap.size w wr ∧ rep s.data.toList = l ++ rep (s.data.toList.drop pos) ∧ l.length ≤ 3 * pos)
  case atStart => exact ⟨0, [], Nat.zero_le _, rfl, rfl, BRow.nil _ _, Below.refl _ _, rfl, Nat.zero_le _⟩
  case round =>
    obtain ⟨pos, l, hp, hg, rfl, hrow, hb, hrp, hl⟩ := hrel
    have HG := Lib.hid hg
    have HROW := Lib.hid hrow
    have HB := Lib.hid hb
    have HRP := Lib.hid hrp
    clear hg hrow hb hrp
    by_cases hlt : pos < s.size
    · have hlt' : (pos : Int) < s.size := by omega
      have hne : s.data.toList.drop pos ≠ [] := by
        intro h
        have := congrArg List.length h
        rw [List.length_drop, hsl] at this
        simp at this
        omega
      have hdl : (s.data.toList.drop pos).length = s.size - pos := by rw [List.length_drop, hsl]
      have hwl := width_le hne
      have hbl := badN_le hne
      have HW := Lib.hid (Width_calls s pos wr hlt (by omega))
      have HBG := Lib.hid (Begins_calls s pos wr hlt (by omega))
      have hbn : badN (s.data.toList.drop pos) = max 1 (begins (s.data.toList.drop pos)) := rfl
      have HGOOD := Lib.hid (fun hw : width (s.data.toList.drop pos) ≠ 0 => rep_good hw hne)
      have HBAD := Lib.hid (fun hw : width (s.data.toList.drop pos) = 0 => rep_bad hw hne)
      have HPL := Lib.hid (part_list s pos (pos + width (s.data.toList.drop pos)))
      rw [hdl] at hwl hbl
      clear hdl hne
      generalize badN (s.data.toList.drop pos) = bn at hbl hbn HBAD
      obtain ⟨n, hn⟩ : ∃ n, width (s.data.toList.drop pos) = n := ⟨_, rfl⟩
      rw [hn] at HW HGOOD HBAD HPL hwl
      obtain ⟨bg, hbg⟩ : ∃ n, begins (s.data.toList.drop pos) = n := ⟨_, rfl⟩
      rw [hbg] at hbn HBG
      clear hn hbg
      go_wp2_with fail
      refine HW.out.mono ?_
      rintro e w' ⟨rfl, rfl⟩
      by_cases h0 : n = 0
      · subst h0
        have HR := Lib.hid (HBAD.out rfl)
        clear HW HGOOD HPL HBAD
        go_wp2_with fail
        refine HBG.out.mono ?_
        rintro e w' ⟨rfl, rfl⟩
        clear HBG
        by_cases h1 : bg = 0
        · subst h1
          obtain rfl : bn = 1 := by omega
          clear hbn
          obtain ⟨v', A', hr, hrow2, hb2⟩ := BRow.three HB.out HROW.out (by omega) 35
          have HRN := Lib.hid hr
          have HROW2 := Lib.hid hrow2
          have HB2 := Lib.hid hb2
          have hw1 : IntKind.i64.wrap ((pos : Int) + 1) = (pos : Int) + 1 := i64w _ (by omega) (by omega)
          clear hr hrow2 hb2
          go_wp2_with (at_builtin; refine append_run2 rfl rfl rfl rfl HRN.out ?_)
          go_roundg (s.size - (pos + 1))
          case measure => have := HG.out; omega
          case rel => exact ⟨pos + 1, l ++ [239, 191, 189], by omega, rfl, by go_num, HROW2.out, HB2.out, by rw [HRP.out, HR.out, List.drop_drop, List.append_assoc], by rw [List.length_append]; simp only [List.length_cons, List.length_nil]; omega⟩
        · obtain rfl : bn = bg := by omega
          clear hbn
          have h1' : ((bn : Int) == 0) = false := by rw [beq_eq_false_iff_ne]; omega
          obtain ⟨v', A', hr, hrow2, hb2⟩ := BRow.three HB.out HROW.out (by omega) 35
          have HRN := Lib.hid hr
          have HROW2 := Lib.hid hrow2
          have HB2 := Lib.hid hb2
          have hw1 : IntKind.i64.wrap ((pos : Int) + bn) = (pos : Int) + bn := i64w _ (by omega) (by omega)
          clear hr hrow2 hb2
          go_wp2_with (at_builtin; refine append_run2 rfl rfl rfl rfl HRN.out ?_)
          go_roundg (s.size - (pos + bn))
          case measure => have := HG.out; omega
          case rel => exact ⟨pos + bn, l ++ [239, 191, 189], by omega, rfl, by go_num, HROW2.out, HB2.out, by rw [HRP.out, HR.out, List.drop_drop, List.append_assoc], by rw [List.length_append]; simp only [List.length_cons, List.length_nil]; omega⟩
      · have h0' : (0 : Int) < n := by omega
        have HR := Lib.hid (HGOOD.out h0)
        have hw1 : IntKind.i64.wrap ((pos : Int) + n) = ((pos + n : Nat) : Int) := by rw [i64w _ (by omega) (by omega)]; omega
        have hsx := Go.run_slice_string (P := Tryd.prog) wr 9 s .i64 .i64 pos ((pos + n : Nat) : Int) Tryd.underlying9 (by omega) (by omega) (by omega)
        rw [Int.toNat_natCast, Int.toNat_natCast] at hsx
        have hcast : ((pos + n : Nat) : Int) = (pos : Int) + n := by omega
        rw [hcast] at hsx
        clear HBG HBAD HGOOD hbn hbl hcast
        obtain ⟨v', A', hr, hrow2, hb2⟩ := BRow.str HB.out HROW.out (s.extract pos (pos + n)) (by simp; omega) 35
        rw [HPL.out] at hrow2
        have HRN := Lib.hid hr
        have HROW2 := Lib.hid hrow2
        have HB2 := Lib.hid hb2
        clear hr hrow2 hb2
        go_wp2_with (at_builtin; refine append_run2 rfl rfl rfl rfl HRN.out ?_)
        go_roundg (s.size - (pos + n))
        case measure => have := HG.out; omega
        case rel => exact ⟨pos + n, _, by omega, rfl, by go_num, HROW2.out, HB2.out, by rw [HRP.out, HR.out, List.drop_drop, List.append_assoc, Nat.add_sub_cancel_left], by rw [List.length_append, List.length_take]; omega⟩
    · have hlt' : ¬ ((pos : Int) < s.size) := by omega
      have htx := HROW.out.text
      have HRL := Lib.hid (show rep s.data.toList = l from by
        have := HRP.out
        rw [List.drop_eq_nil_of_le (by omega), rep_nil, List.append_nil] at this
        exact this)
      go_wp2_with fail
      go_ret
      exact ⟨by rw [HRL.out]; rfl, HB.out⟩

set_option maxHeartbeats 2000000 in
set_option maxRecDepth 100000 in
theorem Bytes_calls (D : Dt) (hG : Good.Good D) (p : Pl) (w : World) (hA : At w D p) (a : Option Addr) (len cap : Nat) (F : Nat → Int) (hr : SameInt.Row w a len F) (hl : len ≤ 1000000) (hid : ∀ i, i < len → -9223372036854775808 ≤ F i ∧ F i ≤ 9223372036854775807) :
    Calls Tryd.prog 45 #[.agg #[.slice p.a0 D.nw p.c0, .slice p.a1 D.nm p.c1, .slice p.a2 D.n0 p.c2, .slice p.a3 D.n1 p.c3, .slice p.a4 D.n2 p.c4], .slice a len cap] w fun e w' => e = .returned (.tuple #[.string (txt D F (upto D F len)), .int .i64 (upto D F len)]) ∧ Below w.heap.size w w' := by
  have HR := Lib.hid hr
  have HI := Lib.hid hid
  have HTZ := Lib.hid (txt_size hG F)
  obtain ⟨W1, hW1⟩ : ∃ W1, w.alloc (.cells #[.slice p.a0 D.nw p.c0, .slice p.a1 D.nm p.c1, .slice p.a2 D.n0 p.c2, .slice p.a3 D.n1 p.c3, .slice p.a4 D.n2 p.c4] 33) = W1 := ⟨_, rfl⟩
  obtain ⟨hb1, hx1, ha1⟩ := Ref5a.boxed hA hW1
  obtain ⟨xb, hxb⟩ : ∃ b, w.heap.size = b := ⟨_, rfl⟩
  have HXB := Lib.hid hxb
  rw [hxb] at hx1
  have HX := Lib.hid hx1
  have HA := Lib.hid ha1
  have HB := Lib.hid hb1
  have HR := Lib.hid (HR.out.below hb1)
  have HWL := Lib.hid (fun id => hG.word_le id)
  obtain ⟨R, hR⟩ : ∃ R, upto D F len = R := ⟨_, rfl⟩
  have HRR := Lib.hid hR
  have hRn : R ≤ len := by rw [← hR]; exact upto_le D F len
  rw [hR]
  clear hA hr hid hx1 ha1 hb1 hR
  go_enter Tryd.func45, Tryd.ntmps45
  go_wp2_with fail
  clear hxb hW1
  go_loopg [6, 7, 8, 9] len (fun g s6 s7 s8 s9 wr => ∃ k : Nat, k ≤ len ∧ g = len - k ∧ s7 = .int .i64 k ∧ upto D F k = k ∧ BRow wr W1.heap.size s6 (txt D F k).data.toList ∧ Below W1.heap.size W1 wr)
  case atStart => exact ⟨0, Nat.zero_le _, rfl, rfl, rfl, BRow.nil _ _, Below.refl _ _⟩
  case round =>
    obtain ⟨k, hk, hg, rfl, hu, hrow, hb1⟩ := hrel
    have HG := Lib.hid hg
    have HU := Lib.hid hu
    have HROW := Lib.hid hrow
    have HB := Lib.hid (chain HB.out hb1)
    have HX := Lib.hid ((hb1.block _ (lt_of_heap HX.out)).trans HX.out)
    have HA := Lib.hid (HA.out.below hb1)
    have HR := Lib.hid (HR.out.below hb1)
    have HB1 := Lib.hid hb1
    clear hg hu hrow hb1
    by_cases hlt : k < len
    · have hlt' : (k : Int) < len := by omega
      obtain ⟨b, o, rfl, hbl, hc⟩ := HR.out.at hlt
      have c0 := hc k hlt
      have hid := HI.out k hlt
      obtain ⟨id, hidd⟩ : ∃ id, F k = id := ⟨_, rfl⟩
      rw [hidd] at c0 hid
      have HID := Lib.hid hidd
      clear hc hidd
      have HSS := Lib.hid (fun (w' : World) (h : Below wr.heap.size wr w') => (⟨(h.cell (p := ⟨xb, 0, none⟩) (lt_of_heap HX.out)).trans (cell_at HX.out 0), (h.cell (p := ⟨xb, 1, none⟩) (lt_of_heap HX.out)).trans (cell_at HX.out 1), (h.cell (p := ⟨xb, 2, none⟩) (lt_of_heap HX.out)).trans (cell_at HX.out 2), (h.cell (p := ⟨xb, 3, none⟩) (lt_of_heap HX.out)).trans (cell_at HX.out 3), (h.cell (p := ⟨xb, 4, none⟩) (lt_of_heap HX.out)).trans (cell_at HX.out 4), (h.cell (p := ⟨b, o + k, none⟩) hbl).trans c0, Nat.lt_of_lt_of_le (lt_of_heap HX.out) h.size, Nat.lt_of_lt_of_le hbl h.size⟩ :
        w'.cell? ⟨xb, 0, none⟩ = some (.slice p.a0 D.nw p.c0) ∧ w'.cell? ⟨xb, 1, none⟩ = some (.slice p.a1 D.nm p.c1) ∧ w'.cell? ⟨xb, 2, none⟩ = some (.slice p.a2 D.n0 p.c2) ∧ w'.cell? ⟨xb, 3, none⟩ = some (.slice p.a3 D.n1 p.c3) ∧ w'.cell? ⟨xb, 4, none⟩ = some (.slice p.a4 D.n2 p.c4) ∧ w'.cell? ⟨b, o + k, none⟩ = some (.int .i64 id) ∧ xb < w'.heap.size ∧ b < w'.heap.size))
      clear c0 hbl
      go_wp2_with fail
      refine Rgu.RGO_begin (fun w' => Below wr.heap.size wr w') 11 11 [(0, 17), (1, 18), (2, 19), (3, 20), (4, 21)] rfl (by decide +kernel) (by kernel_rfl) (Below.refl _ _).drew (fun R hR => ?_)
      repeat ((first | refine Rgu.RGO_take (by exact rfl) (by exact rfl) (by decide +kernel) (by exact rfl) (by intro w' hw'; obtain ⟨q0, q1, q2, q3, q4, q5, q6, q7⟩ := HSS.out _ hw'; go_simp; try with_reducible rfl) ?_ | refine Rgu.RGO_skip (by exact rfl) (by exact rfl) (by decide +kernel) (by exact rfl) ?_); try simp only [Act.put, List.setIfInBounds_toArray, List.set_cons_zero, List.set_cons_succ])
      have hbd : Below wr.heap.size wr wr.drew := (Below.refl _ _).drew
      have HWC := Lib.hid (Word_calls D p id wr.drew (HA.out.below hbd) hid)
      have HBD := Lib.hid hbd
      clear hbd
      refine Rgu.RGO_one 5 [(6, 16), (7, 23), (8, 24), (9, 8), (10, 9)] (by exact rfl) (by decide +kernel) (by exact rfl) (fun K hK => ?_)
      go_wp2_with fail
      refine HWC.out.mono ?_
      rintro e W2 ⟨rfl, hb2⟩
      have hb2' := chain HBD.out hb2
      refine hK _ _ hb2' ?_
      clear hK K
      try simp only [Act.put, List.setIfInBounds_toArray, List.set_cons_zero, List.set_cons_succ]
      repeat ((first | refine Rgu.RGO_take (by exact rfl) (by exact rfl) (by decide +kernel) (by exact rfl) (by intro w' hw'; obtain ⟨q0, q1, q2, q3, q4, q5, q6, q7⟩ := HSS.out _ hw'; go_simp; try with_reducible rfl) ?_ | refine Rgu.RGO_skip (by exact rfl) (by exact rfl) (by decide +kernel) (by exact rfl) ?_); try simp only [Act.put, List.setIfInBounds_toArray, List.set_cons_zero, List.set_cons_succ])
      refine Rgu.RGO_done (by decide +kernel) (hR _ _ ?_)
      have HROW := Lib.hid (HROW.out.below hb2')
      have HB := Lib.hid (chain HB.out hb2')
      have HB1 := Lib.hid (chain HB1.out hb2')
      clear hR R HSS HBD HWC hb2 hb2' HX HA HR
      by_cases hkn : isId D id
      · have HN := Lib.hid (upto_succ HU.out (HID.out.symm ▸ hkn))
        have hd : decide (isId D id) = true := decide_eq_true hkn
        have HS := Lib.hid (show txt D F k ++ word D (F k) = txt D F (k + 1) from rfl)
        rw [HID.out] at HS
        have hw := HWL.out id
        have hz := HTZ.out k
        obtain ⟨v', A', hr, hrow2, hb3⟩ := BRow.str HB1.out HROW.out (word D id) (by rw [size_list]; omega) 35
        have hrow2' : BRow A' W1.heap.size v' (txt D F (k + 1)).data.toList := by
          rw [← HS.out]
          simpa using hrow2
        have HRN := Lib.hid hr
        have HROW2 := Lib.hid hrow2'
        have HB2 := Lib.hid hb3
        rw [hd]
        clear hr hrow2 hrow2' hb3 hkn hd hw hz
        generalize word D id = sd at HRN ⊢
        have hw1 : IntKind.i64.wrap ((k : Int) + 1) = (k : Int) + 1 := i64w _ (by omega) (by omega)
        go_wp2_with (at_builtin; refine append_run2 rfl rfl rfl rfl HRN.out ?_)
        go_roundg (gk - 1)
        case measure => have := HG.out; omega
        case rel => exact ⟨k + 1, by omega, by have := HG.out; omega, by go_num, HN.out, HROW2.out, HB2.out⟩
      · have hd : decide (isId D id) = false := decide_eq_false hkn
        have hN := upto_stop HU.out (by rw [HID.out]; exact hkn) len hlt
        obtain rfl : R = k := by rw [← hN]; exact HRR.out.symm
        rw [hd]
        have htx := HROW.out.text
        clear hkn hN hd
        go_wp2_with fail
        go_ret2
        exact ⟨rfl, HB.out⟩
    · have hkn : k = len := by omega
      obtain rfl : R = k := by rw [← HU.out, hkn]; exact HRR.out.symm
      have hlt' : ¬ ((R : Int) < len) := by omega
      have htx := HROW.out.text
      subst hkn
      go_wp2_with fail
      go_ret2
      exact ⟨rfl, HB.out⟩
end Go.Proofs.YtendkmldecoogaaDoor.RefBytes
