/-
  The helpers of chapter 20's statements and its reference, stepped through.
-/
import Derived.Test.YtgddlcbaieclcaaWalkFns
namespace Go.Proofs.Ytgddlcbaieclcaa.WalkFns
open Go Go.RowKit Go.Proofs.Ytgddlcbaieclcaa.WalkNum Go.Proofs.Ytgddlcbaieclcaa.Kit

attribute [local go_sem] unary_neg_float

@[go_sem] def W3.val (a : W3) : Value := .agg #[.int .i64 a.t, .int .i64 a.x, .int .i64 a.y]

theorem field_turn (t : Int) (p q : Nat) (w : World) : (Instr.field 29 (.agg #[.int .i64 t, .complex .f64 p q]) 0).run Try.prog w = .ok (.int .i64 t) w := by kernel_rfl

set_option maxRecDepth 100000 in
theorem is_calls (a : WB) (m n : W3) (ha : IsB a m) (hx : n.x.natAbs < 9007199254740992) (hy : n.y.natAbs < 9007199254740992) (w : World) :
    Calls Try.prog 20 #[a.val, n.val] w fun e w' => e = .returned (.bool (decide (m.t = n.t) && (decide (m.x = n.x) && decide (m.y = n.y)))) ∧ Below w.heap.size w w' := by
  obtain ⟨ht, hp, hq⟩ := ha
  have e1 : ((FloatKind.format .f64).order a.p (floatOfInt .f64 n.x) == some .eq) = decide (m.x = n.x) := rep_order hp (rep_int hx)
  have e2 : ((FloatKind.format .f64).order a.q (floatOfInt .f64 n.y) == some .eq) = decide (m.y = n.y) := rep_order hq (rep_int hy)
  rw [← ht]
  clear hp hq ht
  by_cases h : a.t = n.t
  · have h1 : (a.t == n.t) = true := by simpa using h
    rw [decide_eq_true h]
    clear h
    go_enter Try.func20, Try.ntmps20
    go_wp2
    go_ret
    exact ⟨by simp, by repeat (first | exact Below.refl _ _ | apply Below.drew | assumption | (refine Below.alloc ?_ (by first | omega | (simp; done) | (simp <;> omega)) _) | (refine Below.setCell ?_ (by first | omega | (simp; done) | (simp <;> omega)) _))⟩
  · have h1 : (a.t == n.t) = false := by simpa using h
    rw [decide_eq_false h]
    clear h
    go_enter Try.func20, Try.ntmps20
    go_wp2
    go_ret
    exact ⟨by simp, by repeat (first | exact Below.refl _ _ | apply Below.drew | assumption | (refine Below.alloc ?_ (by first | omega | (simp; done) | (simp <;> omega)) _) | (refine Below.setCell ?_ (by first | omega | (simp; done) | (simp <;> omega)) _))⟩

set_option maxRecDepth 100000 in
theorem same_calls (a b : WB) (m n : W3) (ha : IsB a m) (hb : IsB b n) (w : World) :
    Calls Try.prog 25 #[a.val, b.val] w fun e w' => e = .returned (.bool (decide (m.t = n.t) && (decide (m.x = n.x) && decide (m.y = n.y)))) ∧ Below w.heap.size w w' := by
  obtain ⟨ht, hp, hq⟩ := ha
  obtain ⟨ht', hp', hq'⟩ := hb
  have e1 : ((FloatKind.format .f64).order a.p b.p == some .eq) = decide (m.x = n.x) := rep_order hp hp'
  have e2 : ((FloatKind.format .f64).order a.q b.q == some .eq) = decide (m.y = n.y) := rep_order hq hq'
  rw [← ht, ← ht']
  clear hp hq ht hp' hq' ht'
  by_cases h : a.t = b.t
  · have h1 : (a.t == b.t) = true := by simpa using h
    rw [decide_eq_true h]
    clear h
    go_enter Try.func25, Try.ntmps25
    go_wp2
    go_ret
    exact ⟨by simp, by repeat (first | exact Below.refl _ _ | apply Below.drew | assumption | (refine Below.alloc ?_ (by first | omega | (simp; done) | (simp <;> omega)) _) | (refine Below.setCell ?_ (by first | omega | (simp; done) | (simp <;> omega)) _))⟩
  · have h1 : (a.t == b.t) = false := by simpa using h
    rw [decide_eq_false h]
    clear h
    go_enter Try.func25, Try.ntmps25
    go_wp2
    go_ret
    exact ⟨by simp, by repeat (first | exact Below.refl _ _ | apply Below.drew | assumption | (refine Below.alloc ?_ (by first | omega | (simp; done) | (simp <;> omega)) _) | (refine Below.setCell ?_ (by first | omega | (simp; done) | (simp <;> omega)) _))⟩

theorem is_yes {a : WB} {m : W3} (ha : IsB a m) (w : World) :
    Calls Try.prog 20 #[a.val, m.val] w fun e w' => e = .returned (.bool true) ∧ Below w.heap.size w w' :=
  (is_calls a m m ha ha.2.1.1 ha.2.2.1 w).mono fun _ _ ⟨he, hb⟩ => ⟨by rw [he]; simp, hb⟩

theorem same_yes {a b : WB} {m : W3} (ha : IsB a m) (hb : IsB b m) (w : World) :
    Calls Try.prog 25 #[a.val, b.val] w fun e w' => e = .returned (.bool true) ∧ Below w.heap.size w w' :=
  (same_calls a b m m ha hb w).mono fun _ _ ⟨he, hb⟩ => ⟨by rw [he]; simp, hb⟩

def few (s : ByteArray) (n : Nat) : ByteArray := if n < s.size then s.extract 0 n else s

theorem few_size (s : ByteArray) (n : Nat) : (few s n).size ≤ n ∧ (few s n).size ≤ s.size := by
  unfold few; split
  · simp; omega
  · omega

theorem few_calls (s : ByteArray) (n : Nat) (w : World) :
    Calls Try.prog 18 #[.string s, .int .i64 n] w fun e w' => e = .returned (.string (few s n)) ∧ w = w' := by
  unfold few
  by_cases h : n < s.size
  · rw [if_pos h]
    go_enter Try.func18, Try.ntmps18
    go_wp2
    go_ret
    exact ⟨rfl, rfl⟩
  · rw [if_neg h]
    go_enter Try.func18, Try.ntmps18
    go_wp2
    go_ret
    exact ⟨rfl, rfl⟩

def BackB (a : WB) : WB := ⟨-(a.t % 4) % 4, (trd (-(a.t % 4) % 4) (trd 2 a.p a.q).1 (trd 2 a.p a.q).2).1, (trd (-(a.t % 4) % 4) (trd 2 a.p a.q).1 (trd 2 a.p a.q).2).2⟩
def BackW (a : W3) : W3 := ⟨-(a.t % 4) % 4, (rot (-(a.t % 4) % 4) (-a.x) (-a.y)).1, (rot (-(a.t % 4) % 4) (-a.x) (-a.y)).2⟩

theorem BackB_is {a : WB} {m : W3} (h : IsB a m) : IsB (BackB a) (BackW m) := by
  obtain ⟨ht, hp, hq⟩ := h
  have h2 := rep_trd (k := 2) hp hq
  have h3 := rep_trd (k := -(m.t % 4) % 4) h2.1 h2.2
  unfold IsB BackB BackW
  rw [ht]
  exact ⟨rfl, h3.1, h3.2⟩

set_option maxRecDepth 100000 in
theorem Back_calls (a : WB) (w : World) :
    Calls Try.prog 27 #[a.val] w fun e w' => e = .returned (BackB a).val ∧ Below w.heap.size w w' := by
  obtain ⟨t, p, q⟩ := a
  have q1 : 0 ≤ t % 4 := by omega
  have q2 : t % 4 < 4 := by omega
  have q3 : -(t % 4) % 4 % 4 = -(t % 4) % 4 := by omega
  go_enter Try.func27, Try.ntmps27
  go_wp2_with (first | (go_at_call 65; refine (quarter_calls _ _).mono ?_; rintro e w' ⟨rfl, rfl⟩) | (go_at_call 66; refine (turned_calls _ _ _ _).mono ?_; rintro e w' ⟨rfl, rfl⟩))
  refine bodyPost_ret (v := .agg #[.int .i64 (-(t % 4) % 4), .complex .f64 (trd (-(t % 4) % 4) (trd 2 p q).1 (trd 2 p q).2).1 (trd (-(t % 4) % 4) (trd 2 p q).1 (trd 2 p q).2).2]) (by simp [results, Try.results27, go_sem, *]) rfl ⟨rfl, by repeat (first | exact Below.refl _ _ | apply Below.drew | assumption | (refine Below.alloc ?_ (by first | omega | (simp; done) | (simp <;> omega)) _) | (refine Below.setCell ?_ (by first | omega | (simp; done) | (simp <;> omega)) _))⟩

theorem rot_succ (k : Nat) (x y : Int) (h : k < 3) : rot (k + 1 : Nat) x y = (-(rot k x y).2, (rot k x y).1) := by
  have hk : k = 0 ∨ k = 1 ∨ k = 2 := by omega
  rcases hk with rfl | rfl | rfl <;> simp [rot]

set_option maxRecDepth 100000 in
theorem refJoin_calls (a b : W3) (h0 : 0 ≤ a.t) (h1 : a.t < 4) (h2 : 0 ≤ b.t) (h3 : b.t < 4) (hax : a.x.natAbs ≤ 1000000000000000) (hay : a.y.natAbs ≤ 1000000000000000) (hbx : b.x.natAbs ≤ 1000000000000000) (hby : b.y.natAbs ≤ 1000000000000000) (w : World) :
    Calls Try.prog 28 #[a.val, b.val] w fun e w' => e = .returned (J a b).val ∧ Below w.heap.size w w' := by
  obtain ⟨t, ax, ay⟩ := a
  obtain ⟨bt, bx, by'⟩ := b
  simp only at h0 h1 h2 h3 hax hay hbx hby
  obtain ⟨n, rfl⟩ := Int.eq_ofNat_of_zero_le h0
  have hn : n < 4 := by omega
  clear h0 h1
  have e4 : ∀ k : Nat, k < 4 → ((k : Int) % 4) = k := fun k hk => by omega
  have hr := fun k : Nat => rot_le k bx by'
  have HR := Lib.hid hr
  have E4 := Lib.hid e4
  clear hr e4
  go_enter Try.func28, Try.ntmps28
  go_wp2_with fail
  go_loopg [5, 6, 7] n (fun g s5 s6 s7 wr => ∃ k : Nat, k ≤ n ∧ g = n - k ∧ s7 = .int .i64 k ∧ s5 = .int .i64 (rot k bx by').1 ∧ s6 = .int .i64 (rot k bx by').2 ∧
    wr = (((w.alloc (.cells #[.int .i64 n, .int .i64 ax, .int .i64 ay] 24)).alloc (.cells #[.int .i64 bt, .int .i64 bx, .int .i64 by'] 24)).alloc (.cells #[.int .i64 0, .int .i64 0, .int .i64 0] 24)))
  case atStart => exact ⟨0, Nat.zero_le _, by omega, rfl, rfl, rfl, rfl⟩
  case round =>
    obtain ⟨k, hk, hg, rfl, rfl, rfl, rfl⟩ := hrel
    have hrk := HR.out k
    have HG := Lib.hid hg
    clear hg
    by_cases hlt : k < n
    · have hs := rot_succ k bx by' (by omega)
      have HS := Lib.hid hs
      clear hs
      obtain ⟨u, hu⟩ : ∃ u, u = rot k bx by' := ⟨_, rfl⟩
      rw [← hu] at hrk
      have HU := Lib.hid hu
      rw [← hu]
      clear hu
      go_wp2
      go_roundg (gk - 1)
      case measure => have := HG.out; omega
      case rel =>
        refine ⟨k + 1, by omega, by have := HG.out; omega, by go_num, ?_, ?_, rfl⟩
        · rw [HS.out, ← HU.out]
        · rw [HS.out, ← HU.out]
    · have hkn : k = n := by omega
      subst hkn
      obtain ⟨u, hu⟩ : ∃ u, u = rot k bx by' := ⟨_, rfl⟩
      rw [← hu] at hrk
      have HU := Lib.hid hu
      rw [← hu]
      clear hu
      go_wp2
      refine bodyPost_ret (v := .agg #[.int .i64 (((k : Int) + bt) % 4), .int .i64 (ax + u.1), .int .i64 (ay + u.2)]) (by simp [results, Try.results28, go_sem, *]) rfl ⟨?_, ?_⟩
      · simp only [W3.val, J]
        rw [E4.out k (by omega), ← HU.out, show bt % 4 = bt by omega]
      · exact (by repeat (first | exact Below.refl _ _ | apply Below.drew | assumption | (refine Below.alloc ?_ (by first | omega | (simp; done) | (simp <;> omega)) _) | (refine Below.setCell ?_ (by first | omega | (simp; done) | (simp <;> omega)) _)))

theorem refByte_le (c : UInt8) : (byteW c.toNat).x.natAbs ≤ 64 ∧ (byteW c.toNat).y.natAbs ≤ 64 := by
  have hc := u8_lt c
  simp only [byteW]
  omega

theorem wk_t (l : List UInt8) : 0 ≤ (wk W0 l).t ∧ (wk W0 l).t < 4 := by
  have h : ∀ (l : List UInt8) (a : W3), 0 ≤ a.t → a.t < 4 → 0 ≤ (wk a l).t ∧ (wk a l).t < 4 := by
    intro l
    induction l with
    | nil => exact fun a h1 h2 => ⟨h1, h2⟩
    | cons c l ih => exact fun a _ _ => ih (J a (byteW c.toNat)) (by simp only [J]; omega) (by simp only [J]; omega)
  exact h l W0 (by decide) (by decide)

set_option maxRecDepth 100000 in
theorem refOf_calls (s : ByteArray) (hs : s.size ≤ 1000000) (w : World) :
    Calls Try.prog 19 #[.string s] w fun e w' => e = .returned (wk W0 s.data.toList).val ∧ Below w.heap.size w w' := by
  have hsl : s.data.toList.length = s.size := by simp
  go_enter Try.func19, Try.ntmps19
  go_wp2_with fail
  go_loopg [4] s.size (fun g s4 wr => ∃ k : Nat, k ≤ s.size ∧ g = s.size - k ∧ s4 = .int .i64 k ∧ Below w.heap.size w wr ∧
    wr.heap[w.heap.size]? = some (.cells #[.int .i64 0, .int .i64 0, .int .i64 0] 24 (0, 0)) ∧
    wr.heap[w.heap.size + 1]? = some (.cells #[.int .i64 (wk W0 (s.data.toList.take k)).t, .int .i64 (wk W0 (s.data.toList.take k)).x, .int .i64 (wk W0 (s.data.toList.take k)).y] 24 (0, 0)))
  case atStart => exact ⟨0, Nat.zero_le _, by omega, rfl, by repeat (first | exact Below.refl _ _ | apply Below.drew | assumption | (refine Below.alloc ?_ (by first | omega | (simp; done) | (simp <;> omega)) _) | (refine Below.setCell ?_ (by first | omega | (simp; done) | (simp <;> omega)) _)), by rw [alloc_old (by simp), alloc_new rfl], by rw [alloc_new (by simp)]; rfl⟩
  case round =>
    obtain ⟨k, hk, hg, rfl, hb, h0, h1⟩ := hrel
    have HG := Lib.hid hg
    clear hg
    by_cases hlt : k < s.size
    · obtain ⟨c, hc⟩ : ∃ c, c = s.data.toList.getD k 0 := ⟨_, rfl⟩
      have hbnd := wk_le W0 (s.data.toList.take k)
      have hlen : (s.data.toList.take k).length ≤ k := List.length_take_le _ _
      have ht := wk_t (s.data.toList.take k)
      have hcb := refByte_le c
      have hx0 : W0.x.natAbs = 0 := rfl
      have hy0 : W0.y.natAbs = 0 := rfl
      have hc256 := u8_lt c
      have hJ := refJoin_calls (wk W0 (s.data.toList.take k)) (byteW c.toNat) ht.1 ht.2 (by simp only [byteW]; omega) (by simp only [byteW]; omega) (by omega) (by omega) (by omega) (by omega)
      have hws : wk W0 (s.data.toList.take (k + 1)) = J (wk W0 (s.data.toList.take k)) (byteW c.toNat) := by rw [take_snoc _ k (by omega), wk_snoc, hc]
      rw [← hws] at hJ
      have c0 := cell_at h1 0
      have c1 := cell_at h1 1
      have c2 := cell_at h1 2
      have f0 := free_at h1 0
      have f1 := free_at h1 1
      have f2 := free_at h1 2
      have hz := lt_of_heap h1
      simp only [List.getElem?_toArray, List.getElem?_cons_zero, List.getElem?_cons_succ] at c0 c1 c2
      go_wp2_with fail
      have e0 : s[k] = c := by rw [hc]; exact byte_at hlt
      have e1 : IntKind.i64.wrap (c.toNat : Int) = c.toNat := i64w _ (by omega) (by omega)
      have e2 : (c.toNat : Int).tmod 4 = (c.toNat : Int) % 4 := Int.tmod_eq_emod_of_nonneg (by omega)
      have e3 : (c.toNat : Int).tdiv 4 = (c.toNat : Int) / 4 := Int.tdiv_eq_ediv_of_nonneg (by omega)
      have e4 : IntKind.i64.wrap ((c.toNat : Int) / 4) = (c.toNat : Int) / 4 := i64w _ (by omega) (by omega)
      have e5 : IntKind.i64.wrap ((c.toNat : Int) / 4 + 1) = (c.toNat : Int) / 4 + 1 := i64w _ (by omega) (by omega)
      have e6 : (c.toNat : Int).tmod 16 = (c.toNat : Int) % 16 := Int.tmod_eq_emod_of_nonneg (by omega)
      have HJ := Lib.hid hJ
      have HS := Lib.hid hws
      clear hJ hws hc hbnd hlen ht hcb hx0 hy0
      unfold W3.val byteW at HJ
      refine region_later 19 (by kernel_rfl) (by kernel_rfl) ?_
      simp only [List.take_succ_cons, List.take_zero, List.drop_succ_cons, List.drop_zero]
      repeat (quiet_step ((exact later_call (HJ.out _))))
      refine wpQuiet_nil ?_
      intro x
      clear e0 e1 e2 e3 e4 e5 e6
      obtain ⟨a1, ha1⟩ : ∃ a1, a1 = wk W0 (s.data.toList.take (k + 1)) := ⟨_, rfl⟩
      rw [← ha1]
      have HA := Lib.hid ha1
      clear ha1
      go_wp2
      go_roundg (gk - 1)
      case measure => have := HG.out; omega
      case rel =>
        refine ⟨k + 1, by omega, by have := HG.out; omega, by go_num, ?_, ?_, ?_⟩
        · exact (((hb.trans (x.h.mono (by omega))).setCell (by simp) _).setCell (by simp) _).setCell (by simp) _
        · rw [Below.heap_setCell _ _ _ _ (by simp), Below.heap_setCell _ _ _ _ (by simp), Below.heap_setCell _ _ _ _ (by simp), x.heap (by omega)]
          exact h0
        · rw [← HA.out]
          rw [← x.heap hz] at h1
          exact heap_set (heap_set (heap_set h1 0 _) 1 _) 2 _
    · have c0 := cell_at h1 0
      have c1 := cell_at h1 1
      have c2 := cell_at h1 2
      have d0 := cell_at h0 0
      have d1 := cell_at h0 1
      have d2 := cell_at h0 2
      have f0 := free_at h0 0
      have f1 := free_at h0 1
      have f2 := free_at h0 2
      have hz := lt_of_heap h1
      simp only [List.getElem?_toArray, List.getElem?_cons_zero, List.getElem?_cons_succ] at c0 c1 c2 d0 d1 d2
      have hkn : k = s.data.toList.length := by omega
      have hfin : s.data.toList.take k = s.data.toList := by rw [hkn]; exact List.take_length
      rw [hfin] at c0 c1 c2
      clear hfin hkn h0 h1
      go_wp2
      refine bodyPost_ret (v := .agg #[.int .i64 (wk W0 s.data.toList).t, .int .i64 (wk W0 s.data.toList).x, .int .i64 (wk W0 s.data.toList).y]) (by simp [results, Try.results19, go_sem, *]) rfl ⟨rfl, ((hb.setCell (Nat.le_refl _) _).setCell (Nat.le_refl _) _).setCell (Nat.le_refl _) _⟩
end Go.Proofs.Ytgddlcbaieclcaa.WalkFns
