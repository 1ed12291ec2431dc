/-
  places: Of, At.
-/
import Derived.Test.YtkjkgpdfhmoenaaDoorPlNums
namespace Go.Proofs.YtkjkgpdfhmoenaaDoor.PlGo
open Go Go.RowKit Go.Proofs.YtkjkgpdfhmoenaaDoor.Kit Go.Proofs.YtkjkgpdfhmoenaaDoor.Range Go.Proofs.YtkjkgpdfhmoenaaDoor.Round Go.Proofs.YtkjkgpdfhmoenaaDoor.Seg Go.Proofs.YtkjkgpdfhmoenaaDoor.Collect Go.Proofs.YtkjkgpdfhmoenaaDoor.It Go.Proofs.YtkjkgpdfhmoenaaDoor.ItGo Go.Proofs.YtkjkgpdfhmoenaaDoor.Dt Go.Proofs.YtkjkgpdfhmoenaaDoor.Mo Go.Proofs.YtkjkgpdfhmoenaaDoor.MoNew Go.Proofs.YtkjkgpdfhmoenaaDoor.Cu Go.Proofs.YtkjkgpdfhmoenaaDoor.CutAll Go.Proofs.YtkjkgpdfhmoenaaDoor.CutTokens Go.Proofs.YtkjkgpdfhmoenaaDoor.EncLaw Go.Proofs.YtkjkgpdfhmoenaaDoor.EncGo Go.Proofs.YtkjkgpdfhmoenaaDoor.BpeGo Go.Proofs.YtkjkgpdfhmoenaaDoor.Chain Go.Proofs.YtkjkgpdfhmoenaaDoor.Good
attribute [local irreducible] wpQuiet wpStill
set_option linter.unusedSimpArgs false

/-- A place. -/
structure Pc where
  id : Int
  a : Int
  b : Int
  f : Int
  e : Int
instance : Inhabited Pc := ⟨⟨0, 0, 0, 0, 0⟩⟩
def pcC (p : Pc) : List Value := [.int .i64 p.id, .int .i64 p.a, .int .i64 p.b, .int .i64 p.f, .int .i64 p.e]
def flatPc (l : List Pc) : List Value := l.flatMap pcC
theorem flatPc_len : ∀ l, (flatPc l).length = l.length * 5
  | [] => rfl
  | p :: l => by
    have := flatPc_len l
    unfold flatPc at this ⊢
    rw [List.flatMap_cons, List.length_append, this]
    simp [pcC]; omega
theorem flatPc_app (a b : List Pc) : flatPc (a ++ b) = flatPc a ++ flatPc b := by simp [flatPc]
theorem flatPc_at : ∀ {l : List Pc} {i j : Nat}, i < l.length → j < 5 → (flatPc l)[i * 5 + j]? = (pcC (l.getD i default))[j]?
  | [], i, j, h, _ => by simp at h
  | p :: l, 0, j, _, hj => by
    have e : flatPc (p :: l) = pcC p ++ flatPc l := rfl
    rw [e, List.getElem?_append_left (by simp [pcC]; omega)]
    simp
  | p :: l, i + 1, j, h, hj => by
    have e : flatPc (p :: l) = pcC p ++ flatPc l := rfl
    have ih := flatPc_at (l := l) (i := i) (j := j) (by simpa using h) hj
    rw [e, List.getElem?_append_right (by simp [pcC]; omega), show (i + 1) * 5 + j - (pcC p).length = i * 5 + j by simp [pcC]; omega, ih]
    rfl
def PcRow (w : World) (base : Nat) (v : Value) (l : List Pc) : Prop := Seg w base 62 5 v l.length (flatPc l)
theorem elemPc : Elem Tryd.prog 53 62 (.agg #[.int .i64 0, .int .i64 0, .int .i64 0, .int .i64 0, .int .i64 0]) 5 40 := ⟨Tryd.underlying53, by kernel_rfl, rfl, by decide⟩

/-- Where token k begins. -/
def pos (D : Dt) (l : List Int) (k : Nat) : Nat := (cat D (l.take k)).length
theorem pos_succ {D : Dt} {l : List Int} {k : Nat} (h : k < l.length) : pos D l (k + 1) = pos D l k + (word D (l.getD k 0)).size := by
  unfold pos
  rw [List.take_add_one, List.getElem?_eq_getElem h, cat_app, List.length_append, List.getD_eq_getElem?_getD, List.getElem?_eq_getElem h]
  simp [cat]
theorem pos_le (D : Dt) (l : List Int) (k : Nat) : pos D l k ≤ (cat D l).length := by
  unfold pos
  conv => rhs; rw [← List.take_append_drop k l, cat_app, List.length_append]
  omega
/-- Token k's place. -/
def pcAt (D : Dt) (N l : List Int) (k : Nat) : Pc := ⟨l.getD k 0, pos D l k, pos D l (k + 1), N.getD (pos D l k) 0, N.getD (pos D l (k + 1) - 1) 0 + 1⟩
def pcs (D : Dt) (N l : List Int) (n : Nat) : List Pc := (List.range n).map (pcAt D N l)
theorem pcs_len (D : Dt) (N l : List Int) (n : Nat) : (pcs D N l n).length = n := by simp [pcs]
theorem pcs_succ (D : Dt) (N l : List Int) (n : Nat) : pcs D N l (n + 1) = pcs D N l n ++ [pcAt D N l n] := by simp [pcs, List.range_succ]

/-- One place more. -/
theorem pc_next {A : World} {base bq : Nat} {v : Value} {l : List Pc} (h : PcRow A base v l) {p : Pc} (hb : A.heap[bq]? = some (.cells (pcC p).toArray 62 (0, 0))) (hbz : base ≤ A.heap.size) (hlen : l.length ≤ 10000000) (ty : TypeId) :
    ∃ v' A', (Builtin.append_ #[53, 53] ty #[v, .slice (some ⟨bq, 0, none⟩) 1 1]).run Tryd.prog A = .ok v' A' ∧ PcRow A' base v' (l ++ [p]) ∧ Upd (fun b => v.ownBlock = some b) A A' := by
  obtain ⟨i, hi, hz0, hz1, hz2⟩ := elemPc.parts
  have hsrc : Src A (.slice (some ⟨bq, 0, none⟩) 1 1) 1 (pcC p) := by
    refine ⟨some ⟨bq, 0, none⟩, 1, rfl, (fun h => by cases h), fun ad had j u hu => ?_⟩
    cases had
    rw [add_plain, cell_at hb]
    simpa using hu
  obtain ⟨v', A', hr, ha, _⟩ := run_append_seg (P := Tryd.prog) A base 53 ty 62 i _ 5 40 elemPc.t hi hz0 hz1 hz2 elemPc.z elemPc.p v l.length (flatPc l) h (.slice (some ⟨bq, 0, none⟩) 1 1) 1 (pcC p) (by simp [pcC]) hsrc (by intro u hu; unfold pcC at hu; simp at hu; rcases hu with rfl | rfl | rfl | rfl | rfl <;> rfl) (by unfold maxLen; omega) (by omega) hbz
  refine ⟨v', A', hr, ?_, ha.u⟩
  unfold PcRow
  rw [flatPc_app, List.length_append]
  have := ha.seg
  simpa [flatPc] using this

theorem numT_mem {L : List It} : ∀ {k : Nat} {x : Int}, x ∈ numT L k → 0 ≤ x ∧ x < k
  | 0, x, h => by simp [numT] at h
  | k + 1, x, h => by
    rcases List.mem_append.1 h with h | h
    · have := numT_mem h; omega
    · have := List.eq_of_mem_replicate h; omega
theorem nums_at (T : List UInt8) (i : Nat) : 0 ≤ (nums T).getD i 0 ∧ (nums T).getD i 0 ≤ T.length := by
  rw [List.getD_eq_getElem?_getD]
  cases h : (nums T)[i]? with
  | none => simp
  | some x =>
    have h1 := numT_mem (List.mem_of_getElem? h)
    have h2 := items_len T 0
    simp only [Option.getD_some]
    omega
theorem vals_get {l : List Int} {k : Nat} (h : k < l.length) : (vals l)[k]? = some (.int .i64 (l.getD k 0)) := by
  unfold vals
  rw [List.getElem?_map, List.getD_eq_getElem?_getD, List.getElem?_eq_getElem h]
  rfl

def Placed (w : World) (D : Dt) (T : List UInt8) (x : List Int × Option Tk) (e : Ending) (w' : World) : Prop := ∃ v, e = .returned (.tuple #[v, .int .i64 (stOf x.2), .int .i64 0]) ∧ PcRow w' w.heap.size v (pcs D (nums T) x.1 x.1.length) ∧ Below w.heap.size w w'

set_option maxHeartbeats 2000000 in
set_option maxRecDepth 100000 in
theorem Of_calls (D : Dt) (mb most : Nat) (s : ByteArray) (w : World) (h : Mod w mb D) (hT : Tabs w) (h1 : 1 ≤ most) (h2 : most ≤ 65536) (hl : s.size ≤ 1048576) :
    Calls Tryd.prog 27 #[.pointer (some ⟨mb, 0, none⟩), .int .i64 most, .string s] w (Placed w D s.data.toList (encode D most s.data.toList)) := by
  have HM := Lib.hid h
  have HT := Lib.hid hT
  have HE := Lib.hid (Encode_calls D mb most s w h hT h1 h2 hl)
  have hec := encode_cat (Good.of_mod h) most s.data.toList
  have HG := Lib.hid (Good.of_mod h)
  have hcl : (cat D (encode D most s.data.toList).1).length ≤ s.size := by
    have h3 := hec.2.2
    cases ho : (encode D most s.data.toList).2 with
    | none => rw [ho] at h3; rw [h3.1, size_list]; exact Nat.le_refl _
    | some t => rw [ho] at h3; rw [h3.2.2.2.2, List.length_take, size_list]; omega
  have hin := hec.1
  have hle := hec.2.1
  rw [size_list] at hle
  obtain ⟨E, hE⟩ : ∃ E, encode D most s.data.toList = E := ⟨_, rfl⟩
  rw [hE] at HE hcl hin hle ⊢
  obtain ⟨l, o⟩ := E
  simp only at HE hcl hin hle
  have hnl := nums_len s.data.toList
  rw [size_list] at hnl
  obtain ⟨N, hN⟩ : ∃ N, nums s.data.toList = N := ⟨_, rfl⟩
  have HNN := Lib.hid hN
  have HNA := Lib.hid (show ∀ i, 0 ≤ N.getD i 0 ∧ N.getD i 0 ≤ s.size from fun i => by have := nums_at s.data.toList i; rw [hN, size_list] at this; exact this)
  rw [hN] at hnl
  have HIN := Lib.hid (show ∀ k, k < l.length → isId D (l.getD k 0) from fun k hk => by
    rw [List.getD_eq_getElem?_getD, List.getElem?_eq_getElem hk]
    exact hin _ (List.getElem_mem hk))
  obtain ⟨st, hst⟩ : ∃ z, stOf o = z := ⟨_, rfl⟩
  unfold Encoded at HE
  simp only at HE
  rw [hst] at HE
  have HST := Lib.hid hst
  clear h hT hec hE hin hN hst
  go_enter Tryd.func27, Tryd.ntmps27
  go_wp2_with fail
  refine HE.out.mono ?_
  rintro e W1 ⟨v, rfl, hr, hb1⟩
  have HR := Lib.hid hr
  have HB := Lib.hid hb1
  obtain ⟨av, cv, rfl, -⟩ := Seg.shape hr
  clear hr hb1 HE
  go_wp2_with fail
  refine (numbers_calls s W1 (HT.out.below HB.out) hl).mono ?_
  rintro e W2 ⟨vn, rfl, hr, hb2⟩
  rw [HNN.out] at hr
  have HNR := Lib.hid hr
  obtain ⟨an, cn, rfl, -⟩ := Seg.shape hr
  have HR := Lib.hid (Seg.below HR.out hb2)
  have HB := Lib.hid (chain HB.out hb2)
  clear hr hb2
  go_wp2_with fail
  go_loopg [13, 14, 36] l.length (fun g s13 s14 s36 wr => ∃ (k : Nat) (v : Value), k ≤ l.length ∧ g = l.length - k ∧ s13 = v ∧ s14 = .int .i64 (pos D l k) ∧ s36 = .int .i64 k ∧ PcRow wr W2.heap.size v (pcs D N l k) ∧ Below w.heap.size w wr ∧ Below W2.heap.size W2 wr)
  case atStart => exact ⟨0, _, Nat.zero_le _, by omega, rfl, rfl, rfl, Seg.nil _ _ _ _, HB.out, Below.refl _ _⟩
  case round =>
    obtain ⟨k, v, hk, hg, rfl, rfl, rfl, hrow, hbw, hb2⟩ := hrel
    have HG2 := Lib.hid hg
    have HROW := Lib.hid hrow
    have HBW := Lib.hid hbw
    have HB2 := Lib.hid hb2
    obtain ⟨a3, c3, rfl, -⟩ := Seg.shape hrow
    have hpl := pcs_len D N l k
    clear hg hrow hbw hb2
    by_cases hlt : k < l.length
    · obtain ⟨g1, o1, rfl, _, hg1, hc1⟩ := Seg.cells HR.out (by omega)
      obtain ⟨id, hid⟩ : ∃ z, l.getD k 0 = z := ⟨_, rfl⟩
      have c0 := (World.cell?_of_block (a := ⟨g1, o1 + k, none⟩) (HB2.out.block g1 hg1)).trans (hc1 k _ (vals_get hlt))
      have hgl1 : g1 < wr.heap.size := by have := HB2.out.size; omega
      have hisd := HIN.out k hlt
      rw [hid] at c0 hisd
      have hidr : -9223372036854775808 ≤ id ∧ id ≤ 9223372036854775807 := by have := HM.out.nw; unfold isId at hisd; omega
      have hd : decide (isId D id) = true := decide_eq_true hisd
      have hpos := Good.word_pos HG.out hisd
      have hps := pos_succ (D := D) hlt
      have hpe := pos_le D l (k + 1)
      rw [hid] at hps
      obtain ⟨z, hz⟩ : ∃ z, word D id = z := ⟨_, rfl⟩
      rw [hz] at hpos hps
      obtain ⟨p0, hp0⟩ : ∃ p, pos D l k = p := ⟨_, rfl⟩
      obtain ⟨p1, hp1⟩ : ∃ p, pos D l (k + 1) = p := ⟨_, rfl⟩
      rw [hp0, hp1] at hps
      rw [hp1] at hpe
      rw [hp0]
      obtain ⟨g2, o2, rfl, _, hg2, hc2⟩ := Seg.cells HNR.out (by omega)
      have d0 := (World.cell?_of_block (a := ⟨g2, o2 + p0, none⟩) (HB2.out.block g2 hg2)).trans (hc2 p0 _ (vals_get (by omega)))
      have d1 := (World.cell?_of_block (a := ⟨g2, o2 + (p1 - 1), none⟩) (HB2.out.block g2 hg2)).trans (hc2 (p1 - 1) _ (vals_get (by omega)))
      have hgl2 : g2 < wr.heap.size := by have := HB2.out.size; omega
      have hn0 := HNA.out p0
      have hn1 := HNA.out (p1 - 1)
      obtain ⟨f0, hf0⟩ : ∃ z, N.getD p0 0 = z := ⟨_, rfl⟩
      obtain ⟨f1, hf1⟩ : ∃ z, N.getD (p1 - 1) 0 = z := ⟨_, rfl⟩
      have HPC := Lib.hid (show pcAt D N l k = ⟨id, p0, p1, f0, f1 + 1⟩ from by
        unfold pcAt
        rw [hp0, hp1, hid, hf0, hf1])
      rw [hf0] at d0 hn0
      rw [hf1] at d1 hn1
      have HID := Lib.hid hid
      have HZ := Lib.hid hz
      have HP1 := Lib.hid hp1
      clear hc1 hc2 hid hz hp0 hp1 hf0 hf1 hisd
      have i1 : (k : Int) < l.length := by omega
      have i2 : (0 : Int) ≤ k := by omega
      have i3 : (p0 : Int) < s.size := by omega
      have i4 : (0 : Int) ≤ p0 := by omega
      have i5 : (p1 : Int) - 1 < s.size := by omega
      have i6 : (0 : Int) ≤ (p1 : Int) - 1 := by omega
      have e1 : IntKind.i64.wrap ((p0 : Int) + z.size) = (p1 : Int) := by rw [i64w _ (by omega) (by omega)]; omega
      have e2 : IntKind.i64.wrap ((p1 : Int) - 1) = ((p1 - 1 : Nat) : Int) := by rw [i64w _ (by omega) (by omega)]; omega
      have e3 : IntKind.i64.wrap (f1 + 1) = f1 + 1 := i64w _ (by omega) (by omega)
      have e4 : IntKind.i64.wrap ((k : Int) + 1) = ((k + 1 : Nat) : Int) := by rw [i64w _ (by omega) (by omega)]; omega
      have i7 : ((p1 - 1 : Nat) : Int) < s.size := by omega
      have i8 : (0 : Int) ≤ ((p1 - 1 : Nat) : Int) := by omega
      have i9 : p0 < s.size := by omega
      have i10 : p1 - 1 < s.size := by omega
      have HPS := Lib.hid hps
      clear hps
      go_wp2_with fail
      refine (Word_mod (HM.out.below HBW.out) id hidr).mono ?_
      rintro e W3 ⟨rfl, hb⟩
      rw [HZ.out, hd]
      have f0' := (World.cell?_of_block (a := ⟨g2, o2 + p0, none⟩) (hb.block g2 hgl2)).trans d0
      have f1' := (World.cell?_of_block (a := ⟨g2, o2 + (p1 - 1), none⟩) (hb.block g2 hgl2)).trans d1
      have hgl3 : g2 < W3.heap.size := by have := hb.size; omega
      have HBW3 := Lib.hid (chain HBW.out hb)
      have HB23 := Lib.hid (chain HB2.out hb)
      have HROW3 := Lib.hid (Seg.below HROW.out hb)
      clear hb c0 d0 d1 hgl1 hgl2
      obtain ⟨An, hAn⟩ : ∃ Xz, W3.alloc (.cells #[.int .i64 id, .int .i64 p0, .int .i64 p1, .int .i64 f0, .int .i64 (f1 + 1)] 62) = Xz := ⟨_, rfl⟩
      obtain ⟨bq, hbq⟩ : ∃ xz, W3.heap.size = xz := ⟨_, rfl⟩
      have hbn : Below W3.heap.size W3 An := by rw [← hAn]; exact (Below.refl _ _).alloc (Nat.le_refl _) _
      have HN0 := Lib.hid (by rw [← hAn, ← hbq]; exact alloc_new rfl : An.heap[bq]? = some (.cells #[.int .i64 id, .int .i64 p0, .int .i64 p1, .int .i64 f0, .int .i64 (f1 + 1)] 62 (0, 0)))
      have EAn := Lib.hid hAn
      have Ebq := Lib.hid hbq
      clear hAn hbq
      obtain ⟨A1, hA1⟩ : ∃ z, An.drew = z := ⟨_, rfl⟩
      have hbn' : Below W3.heap.size W3 A1 := by rw [← hA1]; exact hbn.drew
      have HN1 := Lib.hid (show A1.heap[bq]? = some (.cells (pcC ⟨id, p0, p1, f0, f1 + 1⟩).toArray 62 (0, 0)) from by rw [← hA1]; exact HN0.out)
      have EA1 := Lib.hid hA1
      obtain ⟨v', A2, hrun, hrow2, hu2⟩ := pc_next (p := ⟨id, p0, p1, f0, f1 + 1⟩) (Seg.below HROW3.out hbn') HN1.out (by have := HB23.out.size; have := hbn'.size; omega) (by rw [hpl]; omega) 53
      rw [← HPC.out, ← pcs_succ] at hrow2
      rw [hpl, ← EA1.out, ← EAn.out, ← Ebq.out] at hrun
      have HRUN := Lib.hid hrun
      have HROW2 := Lib.hid hrow2
      have hvl := Seg.lt HROW3.out
      have HBW4 := Lib.hid (show Below w.heap.size w A2 from (HBW3.out.trans (hbn'.mono HBW3.out.size)).trans (hu2.below (by have := HBW3.out.size; have := hbn'.size; omega) (fun b hb h => by have := (hvl b h).1; have := HB.out.size; omega)))
      have hg2n : ¬ (Value.slice a3 (pcs D N l k).length c3).ownBlock = some g2 := fun hh => by
        have := (hvl g2 hh).1
        omega
      have HS1 := Lib.hid (show A1.cell? ⟨g2, o2 + p0, none⟩ = some (.int .i64 f0) ∧ A1.cell? ⟨g2, o2 + (p1 - 1), none⟩ = some (.int .i64 f1) from ⟨(World.cell?_of_block (a := ⟨g2, o2 + p0, none⟩) (hbn'.block g2 hgl3)).trans f0', (World.cell?_of_block (a := ⟨g2, o2 + (p1 - 1), none⟩) (hbn'.block g2 hgl3)).trans f1'⟩)
      have HS2 := Lib.hid (show A2.cell? ⟨g2, o2 + p0, none⟩ = some (.int .i64 f0) ∧ A2.cell? ⟨g2, o2 + (p1 - 1), none⟩ = some (.int .i64 f1) from ⟨(hu2.cell (p := ⟨g2, o2 + p0, none⟩) (by have := hbn'.size; show g2 < _; omega) hg2n).trans HS1.out.1, (hu2.cell (p := ⟨g2, o2 + (p1 - 1), none⟩) (by have := hbn'.size; show g2 < _; omega) hg2n).trans HS1.out.2⟩)
      have hb24 := hu2.below (B := W2.heap.size) (by have := HB23.out.size; have := hbn'.size; omega) (fun b hb h => by have := (hvl b h).1; omega)
      have HB24 := Lib.hid (show Below W2.heap.size W2 A2 from (HB23.out.trans (hbn'.mono HB23.out.size)).trans hb24)
      clear hrun hrow2 hu2 hbn hbn' hA1 hvl hb24 hg2n
      rw [hpl]
      go_upto_region 12 with fail
      refine Rgs.RGT_begin (fun w' => w'.cell? ⟨g2, o2 + p0, none⟩ = some (.int .i64 f0) ∧ w'.cell? ⟨g2, o2 + (p1 - 1), none⟩ = some (.int .i64 f1)) 20 [(0, 50), (1, 51), (2, 52), (3, 53), (5, 55), (6, 56), (9, 59), (10, 60), (4, 54), (7, 57), (11, 61), (8, 58), (12, 62), (13, 63), (14, 64), (15, 65), (16, 66)] (by rfl) (by decide +kernel) (by kernel_rfl) (⟨f0', f1'⟩) (fun R hR => ?_)
      repeat ((first | refine Rgs.RGT_take (by exact rfl) (by exact rfl) (by decide +kernel) (by exact rfl) (by intro w' hw'; obtain ⟨y0, y1⟩ := hw'; go_simp; try with_reducible rfl) ?_ | refine Rgs.RGT_skip (by exact rfl) (by exact rfl) (by decide +kernel) (by exact rfl) ?_); try simp only [Act.put, List.setIfInBounds_toArray, List.set_cons_zero, List.set_cons_succ])
      refine Rgs.RGT_one 17 [] (by exact rfl) (by decide +kernel) (by exact rfl) (fun K hK => ?_)
      go_wp2_with (fail)
      refine hK _ _ (by rw [EAn.out, EA1.out]; exact HS1.out) ?_
      clear hK K
      try simp only [Act.put, List.setIfInBounds_toArray, List.set_cons_zero, List.set_cons_succ]
      refine Rgs.RGT_one 18 [(19, 13)] (by exact rfl) (by decide +kernel) (by exact rfl) (fun K hK => ?_)
      refine Rgu.append_op rfl rfl rfl HRUN.out ?_
      refine hK _ _ (HS2.out) ?_
      clear hK K
      try simp only [Act.put, List.setIfInBounds_toArray, List.set_cons_zero, List.set_cons_succ]
      repeat ((first | refine Rgs.RGT_take (by exact rfl) (by exact rfl) (by decide +kernel) (by exact rfl) (by intro w' hw'; obtain ⟨y0, y1⟩ := hw'; go_simp; try with_reducible rfl) ?_ | refine Rgs.RGT_skip (by exact rfl) (by exact rfl) (by decide +kernel) (by exact rfl) ?_); try simp only [Act.put, List.setIfInBounds_toArray, List.set_cons_zero, List.set_cons_succ])
      refine Rgs.RGT_done (by decide +kernel) (hR _ _ ?_)
      clear hR R
      go_wp2_with fail
      go_roundg (l.length - (k + 1))
      case measure => have := HG2.out; omega
      case rel => exact ⟨k + 1, v', by omega, rfl, rfl, by rw [HP1.out], by go_num, HROW2.out, HBW4.out, HB24.out⟩
    · have hkl : k = l.length := by omega
      subst hkl
      have hi : ¬ ((l.length : Int) < l.length) := by omega
      have HQ := Lib.hid (show Placed w D s.data.toList (l, o) (.returned (.tuple #[.slice a3 (pcs D N l l.length).length c3, .int .i64 st, .int .i64 0])) wr from ⟨_, by rw [HST.out], by rw [HNN.out]; exact Seg.rebase HROW.out (fun b hb => by have := (Seg.lt HROW.out b hb).1; have := HB.out.size; omega), HBW.out⟩)
      rw [hpl] at HQ ⊢
      go_wp2_with fail
      refine bodyPost_ret (v := .tuple #[.slice a3 l.length c3, .int .i64 st, .int .i64 0]) (by simp [results, Tryd.results27, go_sem, *]) rfl (HQ.out)
end Go.Proofs.YtkjkgpdfhmoenaaDoor.PlGo
