/-
  tesseraref5.made, Word, words.
-/
import Derived.Test.YtendkmldecoogaaDoorDt
import Derived.Lib.ConvBytes
import Derived.Laws.BytesArg
namespace Go.Proofs.YtendkmldecoogaaDoor.Ref5a
open Go Go.RowKit Go.Proofs.YtendkmldecoogaaDoor.Kit Go.Proofs.YtendkmldecoogaaDoor.SpFns Go.Proofs.YtendkmldecoogaaDoor.Dt
attribute [local irreducible] wpQuiet

/-- What a walk asks of boxed data. -/
theorem boxed {w W1 : World} {D : Dt} {p : Pl} (h : At w D p) (hW : w.alloc (.cells #[.slice p.a0 D.nw p.c0, .slice p.a1 D.nm p.c1, .slice p.a2 D.n0 p.c2, .slice p.a3 D.n1 p.c3, .slice p.a4 D.n2 p.c4] 33) = W1) :
    Below w.heap.size w W1 ∧ (W1.heap[w.heap.size]? = some (.cells #[.slice p.a0 D.nw p.c0, .slice p.a1 D.nm p.c1, .slice p.a2 D.n0 p.c2, .slice p.a3 D.n1 p.c3, .slice p.a4 D.n2 p.c4] 33 (0, 0))) ∧ At W1 D p := by
  have hb : Below w.heap.size w W1 := by rw [← hW]; exact (Below.refl _ _).alloc (Nat.le_refl _) _
  exact ⟨hb, by rw [← hW]; exact alloc_new rfl, h.below hb⟩

theorem made_no {D : Dt} {n : Nat} {id : Int} (h1 : ¬ (0 ≤ id ∧ id < 256)) (h : ∀ j, j < n → D.I j ≠ id) : false = decide (Made D n id) :=
  (decide_eq_false (fun h2 => h2.elim h1 (fun ⟨_, j, hj, h3⟩ => h j hj h3))).symm
theorem made_hit {D : Dt} {n j : Nat} {id : Int} (h1 : ¬ (0 ≤ id ∧ id < 256)) (hj : j < n) (h : D.I j = id) : decide (256 ≤ id) = decide (Made D n id) :=
  decide_eq_decide.2 ⟨fun h2 => .inr ⟨h2, j, hj, h⟩, fun h2 => h2.elim (fun h3 => absurd h3 h1) (fun h3 => h3.1)⟩

set_option maxRecDepth 100000 in
theorem made_calls (D : Dt) (p : Pl) (n : Nat) (id : Int) (w : World) (h : At w D p) (hn : n ≤ D.nm) :
    Calls Tryd.prog 133 #[.agg #[.slice p.a0 D.nw p.c0, .slice p.a1 D.nm p.c1, .slice p.a2 D.n0 p.c2, .slice p.a3 D.n1 p.c3, .slice p.a4 D.n2 p.c4], .int .i64 n, .int .i64 id] w fun e w' => e = .returned (.bool (decide (Made D n id))) ∧ Below w.heap.size w w' := by
  have H := Lib.hid h
  have hbm := h.bm
  clear h
  by_cases hs : 0 ≤ id ∧ id < 256
  · obtain ⟨h0, h1⟩ := hs
    have hm : true = decide (Made D n id) := (decide_eq_true (.inl ⟨h0, h1⟩)).symm
    have HM := Lib.hid hm
    clear hm
    go_enter Tryd.func133, Tryd.ntmps133
    go_wp2
    go_ret
    exact ⟨ret_bool HM.out, (Below.refl _ _).alloc (Nat.le_refl _) _⟩
  · have HS := Lib.hid hs
    have hs2 : id < 0 ∨ 256 ≤ id := by omega
    clear hs
    obtain ⟨W1, hW⟩ : ∃ W1, w.alloc (.cells #[.slice p.a0 D.nw p.c0, .slice p.a1 D.nm p.c1, .slice p.a2 D.n0 p.c2, .slice p.a3 D.n1 p.c3, .slice p.a4 D.n2 p.c4] 33) = W1 := ⟨_, rfl⟩
    obtain ⟨hb1, hx1, ha1⟩ := boxed H.out hW
    have HA1 := Lib.hid ha1
    have HB1 := Lib.hid hb1
    have b1 := cell_at hx1 1
    have zx := lt_of_heap hx1
    simp only [List.getElem?_toArray, List.getElem?_cons_zero, List.getElem?_cons_succ] at b1
    clear hb1 hx1 ha1
    rcases hs2 with hs2 | hs2
    all_goals
      go_enter Tryd.func133, Tryd.ntmps133
      go_wp2_with fail
      go_loopg [7] n (fun g s7 wr => ∃ k : Nat, k ≤ n ∧ g = n - k ∧ s7 = .int .i64 k ∧ W1 = wr ∧ ∀ j, j < k → D.I j ≠ id)
      case atStart => exact ⟨0, Nat.zero_le _, by omega, rfl, rfl, fun j hj => by omega⟩
      case round =>
        obtain ⟨k, hk, hg, rfl, rfl, hno⟩ := hrel
        have HG := Lib.hid hg
        have HNO := Lib.hid hno
        clear hg hno
        by_cases hlt : k < n
        · obtain ⟨b, off, hpa, hbl, hc⟩ := HA1.out.rm.at (show k < D.nm by omega)
          have c2 := (hc k (by omega)).2.2
          have hi : (k : Int) < D.nm := by omega
          have hi2 : k < D.nm := by omega
          obtain ⟨v, hv⟩ : ∃ v, v = D.I k := ⟨_, rfl⟩
          rw [← hv] at c2
          have HV := Lib.hid hv
          have b1' := b1
          rw [hpa] at b1'
          clear hc hv hpa
          by_cases hvi : v = id
          · have HM := Lib.hid (made_hit HS.out hlt (HV.out.symm.trans hvi))
            have e1 : (v == id) = true := by simpa using hvi
            clear hvi b1
            go_wp2
            go_ret
            exact ⟨ret_bool (Eq.trans (by first | rfl | exact (decide_eq_true (by omega)).symm | exact (decide_eq_false (by omega)).symm) HM.out), HB1.out⟩
          · have e1 : (v == id) = false := by simpa using hvi
            have HN2 := Lib.hid hvi
            clear hvi b1
            go_wp2
            go_roundg (n - (k + 1))
            case measure => have := HG.out; omega
            case rel =>
              refine ⟨k + 1, by omega, rfl, by go_num, rfl, fun j hj => ?_⟩
              rcases Nat.lt_or_ge j k with h | h
              · exact HNO.out j h
              · have : j = k := by omega
                subst this
                rw [← HV.out]
                exact HN2.out
        · have hkn : k = n := by omega
          subst hkn
          go_wp2
          go_ret
          exact ⟨ret_bool (made_no HS.out HNO.out), HB1.out⟩

/-- A byte as a text. -/
def byteS (n : Int) : ByteArray := ⟨#[UInt8.ofNat n.toNat]⟩

theorem word_byte {D : Dt} {id : Int} (h0 : 0 ≤ id) (h1 : id < 256) : word D id = byteS id := by unfold word; rw [if_pos ⟨h0, h1⟩]; rfl
theorem word_list {D : Dt} {id : Int} (h0 : 256 ≤ id) (h1 : id - 256 < D.nw) : word D id = D.W (id - 256).toNat := by unfold word; rw [if_neg (by omega), if_pos ⟨h0, h1⟩]
theorem word_none {D : Dt} {id : Int} (h : id < 0 ∨ 256 + (D.nw : Int) ≤ id) : word D id = ByteArray.empty := by unfold word; rw [if_neg (by omega), if_neg (by omega)]

theorem u8w {n : Int} (h0 : 0 ≤ n) (h1 : n < 256) : IntKind.u8.wrap n = n := by
  simp [IntKind.wrap, IntKind.bits, IntKind.signed]
  omega

/-- A byte that was just laid, as a text. -/
theorem byte_text (W : World) (n : Int) : (convert 35 9 (.slice (some ⟨W.heap.size, 0, none⟩) 1 1)).run Tryd.prog (W.alloc (.cells #[.int .u8 n] 5)) = .ok (.string (byteS n)) (W.alloc (.cells #[.int .u8 n] 5)) := by
  have := run_convert_bytes_arg (P := Tryd.prog) (W.alloc (.cells #[.int .u8 n] 5)) 35 5 Tryd.underlying35 Tryd.underlying5 W.heap.size 0 1 1 [n] rfl (fun i hi => by
    have : i = 0 := by omega
    subst this
    rw [cell_at (alloc_new rfl)]; rfl) 9 Tryd.underlying9
  exact this

set_option maxRecDepth 100000 in
theorem Word_calls (D : Dt) (p : Pl) (id : Int) (w : World) (h : At w D p) (hid : -9223372036854775808 ≤ id ∧ id ≤ 9223372036854775807) :
    Calls Tryd.prog 49 #[.agg #[.slice p.a0 D.nw p.c0, .slice p.a1 D.nm p.c1, .slice p.a2 D.n0 p.c2, .slice p.a3 D.n1 p.c3, .slice p.a4 D.n2 p.c4], .int .i64 id] w fun e w' => e = .returned (.tuple #[.string (word D id), .bool (decide (isId D id))]) ∧ Below w.heap.size w w' := by
  have H := Lib.hid h
  have hbw := h.bw
  clear h
  by_cases hs : 0 ≤ id ∧ id < 256
  · obtain ⟨h0, h1⟩ := hs
    have HM := Lib.hid (word_byte (D := D) h0 h1)
    have HI := Lib.hid (decide_eq_true ⟨h0, by omega⟩ : decide (isId D id) = true)
    obtain ⟨W1, hW⟩ : ∃ W1, w.alloc (.cells #[.slice p.a0 D.nw p.c0, .slice p.a1 D.nm p.c1, .slice p.a2 D.n0 p.c2, .slice p.a3 D.n1 p.c3, .slice p.a4 D.n2 p.c4] 33) = W1 := ⟨_, rfl⟩
    obtain ⟨hb1, hx1, _⟩ := boxed H.out hW
    have HB1 := Lib.hid hb1
    have hcv := byte_text W1 id
    have hw : IntKind.u8.wrap id = id := u8w h0 h1
    clear hb1 hx1
    go_enter Tryd.func49, Tryd.ntmps49
    go_wp2
    go_ret2
    rw [HM.out, HI.out]
    exact ⟨rfl, HB1.out.alloc HB1.out.size _⟩
  · have hs2 : id < 0 ∨ 256 + (D.nw : Int) ≤ id ∨ (256 ≤ id ∧ id - 256 < D.nw) := by omega
    clear hs
    obtain ⟨W1, hW⟩ : ∃ W1, w.alloc (.cells #[.slice p.a0 D.nw p.c0, .slice p.a1 D.nm p.c1, .slice p.a2 D.n0 p.c2, .slice p.a3 D.n1 p.c3, .slice p.a4 D.n2 p.c4] 33) = W1 := ⟨_, rfl⟩
    obtain ⟨hb1, hx1, ha1⟩ := boxed H.out hW
    have HB1 := Lib.hid hb1
    have HA1 := Lib.hid ha1
    have b0 := cell_at hx1 0
    have zx := lt_of_heap hx1
    simp only [List.getElem?_toArray, List.getElem?_cons_zero] at b0
    clear hb1 hx1 ha1
    rcases hs2 with hs2 | hs2 | ⟨h0, h1⟩
    · have HM := Lib.hid (word_none (D := D) (.inl hs2))
      have HI := Lib.hid (decide_eq_false (fun h => by have := h.1; omega) : decide (isId D id) = false)
      go_enter Tryd.func49, Tryd.ntmps49
      go_wp2
      go_ret2
      rw [HM.out, HI.out]
      exact ⟨rfl, HB1.out⟩
    · have HM := Lib.hid (word_none (D := D) (.inr hs2))
      have HI := Lib.hid (decide_eq_false (fun h => by have := h.2; omega) : decide (isId D id) = false)
      have hw : IntKind.i64.wrap (id - 256) = id - 256 := i64w _ (by omega) (by omega)
      have hs3 : ¬ (id - 256 < (D.nw : Int)) := by omega
      go_enter Tryd.func49, Tryd.ntmps49
      go_wp2
      go_ret2
      rw [HM.out, HI.out]
      exact ⟨rfl, HB1.out⟩
    · have HM := Lib.hid (word_list h0 h1)
      have HI := Lib.hid (decide_eq_true ⟨by omega, by omega⟩ : decide (isId D id) = true)
      obtain ⟨k, hk⟩ : ∃ k : Nat, id = 256 + k := ⟨(id - 256).toNat, by omega⟩
      have hkn : k < D.nw := by omega
      have hki : (k : Int) < D.nw := by omega
      obtain ⟨b, off, hpa, hbl, hc⟩ := HA1.out.rw.at hkn
      have c0 := hc k hkn
      rw [hpa] at b0
      have hwk : (id - 256).toNat = k := by omega
      rw [hwk] at HM
      have hw : IntKind.i64.wrap (id - 256) = k := by rw [i64w _ (by omega) (by omega)]; omega
      clear hc hk hwk hpa h1
      go_enter Tryd.func49, Tryd.ntmps49
      go_wp2
      go_ret2
      rw [HM.out, HI.out]
      exact ⟨rfl, HB1.out⟩
end Go.Proofs.YtendkmldecoogaaDoor.Ref5a
