/-
  tesserabook.Book of lists of numbers: Apart.
-/
import Derived.Test.YtkjkgpdfhmoenaaDoorBookInt
namespace Go.Proofs.YtkjkgpdfhmoenaaDoor.BookInt
open Go Go.RowKit Go.Proofs.YtkjkgpdfhmoenaaDoor.Kit Go.Proofs.YtkjkgpdfhmoenaaDoor.Round Go.Proofs.YtkjkgpdfhmoenaaDoor.Seg Go.Proofs.YtkjkgpdfhmoenaaDoor.Collect Go.Proofs.YtkjkgpdfhmoenaaDoor.SameInt
attribute [local irreducible] wpQuiet

/-- A list's memory, its spare room too. -/
def Room (W : World) (base : Nat) (a : Option Addr) (cap : Nat) : Prop :=
  (cap = 0) ∨ ∃ g o cur, a = some ⟨g, o, none⟩ ∧ base ≤ g ∧ W.heap[g]? = some (.cells cur 3 (0, 0)) ∧ o + cap * 1 ≤ cur.size
/-- Its first j places hold marks. -/
def Marked (M0 : Nat → Nat → Int) (W : World) (a : Option Addr) (i j : Nat) : Prop :=
  j = 0 ∨ ∃ g o cur, a = some ⟨g, o, none⟩ ∧ W.heap[g]? = some (.cells cur 3 (0, 0)) ∧ ∀ p, p < j → cur[o + p]? = some (.int .i64 (M0 i p))
variable {M0 : Nat → Nat → Int}
theorem Room.keep {W W' : World} {base cap : Nat} {a : Option Addr} (h : Room W base a cap) (hb : 0 < cap → ∀ x, a = some x → W'.heap[x.block]? = W.heap[x.block]?) : Room W' base a cap := by
  rcases h with h | ⟨g, o, cur, rfl, h1, h2, h3⟩
  · exact .inl h
  · rcases Nat.eq_zero_or_pos cap with h0 | h0
    · exact .inl h0
    · exact .inr ⟨g, o, cur, rfl, h1, (hb h0 _ rfl).trans h2, h3⟩
theorem Marked.keep {W W' : World} {i j : Nat} {a : Option Addr} (h : Marked M0 W a i j) (hb : ∀ x, a = some x → W'.heap[x.block]? = W.heap[x.block]?) : Marked M0 W' a i j := by
  rcases h with h | ⟨g, o, cur, rfl, h2, h3⟩
  · exact .inl h
  · exact .inr ⟨g, o, cur, rfl, (hb _ rfl).trans h2, h3⟩

/-- What the marks touch. -/
def Touched (bb : Nat) (A : Nat → Option Addr) (n : Nat) (b : Nat) : Prop := b = bb ∨ ∃ k, k < n ∧ ∃ x, A k = some x ∧ x.block = b
/-- What stands while the marks are written: the first i lists are full of them, of the next one the first j places. -/
structure Ap (M0 : Nat → Nat → Int) (wr : World) (base bb : Nat) (A : Nat → Option Addr) (C N : Nat → Nat) (n : Nat) (lv wv : Value) (held : Int) (W0 : World) (i j : Nat) : Prop where
  bk : wr.heap[bb]? = some (.cells #[lv, wv, .int .i64 held, .bool false] 75 (0, 0))
  ll : Seg wr base 33 1 lv n ((List.range n).map fun k => .slice (A k) (N k) (C k))
  rm : ∀ k, k < n → Room wr base (A k) (C k)
  mkd : ∀ k, k < i → Marked M0 wr (A k) k (C k)
  mj : j ≠ 0 → Marked M0 wr (A i) i j
  be : Below base W0 wr
  up : Upd (Touched bb A n) W0 wr

theorem Ap.below {wr w' : World} {base bb n i j : Nat} {A : Nat → Option Addr} {C N : Nat → Nat} {lv wv : Value} {held : Int} {W0 : World} (h : Ap M0 wr base bb A C N n lv wv held W0 i j) (hb : Below wr.heap.size wr w') (hbase : base ≤ wr.heap.size) : Ap M0 w' base bb A C N n lv wv held W0 i j := by
  have k1 : ∀ {a : Option Addr} {cap : Nat}, Room wr base a cap → Room w' base a cap := fun {a cap} h => by
    rcases h with h | ⟨g, o, cur, rfl, h1, h2, h3⟩
    · exact .inl h
    · exact .inr ⟨g, o, cur, rfl, h1, (hb.block g (lt_of_heap h2)).trans h2, h3⟩
  have k2 : ∀ {a : Option Addr} {i j : Nat}, Marked M0 wr a i j → Marked M0 w' a i j := fun {a i j} h => by
    rcases h with h | ⟨g, o, cur, rfl, h2, h3⟩
    · exact .inl h
    · exact .inr ⟨g, o, cur, rfl, (hb.block g (lt_of_heap h2)).trans h2, h3⟩
  exact ⟨(hb.block bb (lt_of_heap h.bk)).trans h.bk, h.ll.below hb, fun k hk => k1 (h.rm k hk), fun k hk => k2 (h.mkd k hk), fun hj => k2 (h.mj hj), h.be.trans (hb.mono hbase), h.up.trans ((Upd.of_below hb : Upd (fun _ => False) wr w').mono fun _ _ h => h.elim)⟩

/-- One more mark is written. -/
theorem Ap.write {wr w' : World} {base bb n i j : Nat} {A : Nat → Option Addr} {C N : Nat → Nat} {lv wv : Value} {held : Int} {W0 : World} (h : Ap M0 wr base bb A C N n lv wv held W0 i j) (hi : i < n) (hj : j < C i)
    (hd : ∀ k, k < n → k ≠ i → ∀ x y, A k = some x → A i = some y → 0 < C k → x.block ≠ y.block) {g o : Nat} {cur cur' : Array Value} (ha : A i = some ⟨g, o, none⟩) (hg : wr.heap[g]? = some (.cells cur 3 (0, 0)))
    (hu : Upd (fun b => b = g) wr w') (hg' : w'.heap[g]? = some (.cells cur' 3 (0, 0))) (hsz : cur'.size = cur.size) (hold : ∀ p, p < o + j * 1 → cur'[p]? = cur[p]?) (hnew : cur'[o + j]? = some (.int .i64 (M0 i j))) (hbase : base ≤ wr.heap.size) : Ap M0 w' base bb A C N n lv wv held W0 i (j + 1) := by
  have hne : ∀ k, k < n → k ≠ i → 0 < C k → ∀ x, A k = some x → x.block ≠ g := fun k hk hki h0 x hx => hd k hk hki x _ hx ha h0
  have hgb : base ≤ g := by
    rcases h.rm i hi with h0 | ⟨g', o', c', h1, h2, _⟩
    · omega
    · rw [ha] at h1; cases h1; exact h2
  refine ⟨?_, h.ll.upd hu (fun b hb e => ?_), fun k hk => ?_, fun k hk => ?_, fun _ => ?_, h.be.trans (hu.below hbase (fun b hb e => by omega)), h.up.trans (hu.mono fun b _ e => by subst e; exact .inr ⟨i, hi, _, ha, rfl⟩)⟩
  · refine (hu.block bb (lt_of_heap h.bk) (fun e => ?_)).trans h.bk
    have := h.bk
    rw [e, hg] at this
    simp at this
  · subst e
    exact no_own h.ll hg (by decide) hb
  · by_cases hki : k = i
    · subst hki
      rcases h.rm k hi with h0 | ⟨g', o', c', h1, h2, h3, h4⟩
      · exact .inl h0
      · rw [ha] at h1
        cases h1
        rw [hg] at h3
        cases h3
        exact .inr ⟨g, o, cur', ha, h2, hg', by rw [hsz]; exact h4⟩
    · rcases h.rm k hk with h0 | ⟨g', o', c', h1, h2, h3, h4⟩
      · exact .inl h0
      · rcases Nat.eq_zero_or_pos (C k) with h0 | h0
        · exact .inl h0
        · exact .inr ⟨g', o', c', h1, h2, (hu.block g' (lt_of_heap h3) (hne k hk hki h0 _ h1)).trans h3, h4⟩
  · have hkn : k < n := by omega
    rcases h.mkd k hk with h0 | ⟨g', o', c', h1, h3, h4⟩
    · exact .inl h0
    · rcases Nat.eq_zero_or_pos (C k) with h0 | h0
      · exact .inl h0
      · exact .inr ⟨g', o', c', h1, (hu.block g' (lt_of_heap h3) (hne k hkn (by omega) h0 _ h1)).trans h3, h4⟩
  · refine .inr ⟨g, o, cur', ha, hg', fun p hp => ?_⟩
    by_cases hpj : p = j
    · subst hpj
      exact hnew
    · rcases h.mj (by omega) with h0 | ⟨g', o', c', h1, h3, h4⟩
      · omega
      · rw [ha] at h1
        cases h1
        rw [hg] at h3
        cases h3
        have h5 := h4 p (by omega)
        have hlt : p * 1 + 1 ≤ j * 1 := by omega
        exact (hold _ (by omega)).trans h5
theorem Ap.next {wr : World} {base bb n i : Nat} {A : Nat → Option Addr} {C N : Nat → Nat} {lv wv : Value} {held : Int} {W0 : World} (h : Ap M0 wr base bb A C N n lv wv held W0 i (C i)) : Ap M0 wr base bb A C N n lv wv held W0 (i + 1) 0 :=
  ⟨h.bk, h.ll, h.rm, fun k hk => by
    by_cases hki : k = i
    · subst hki
      by_cases h0 : C k = 0
      · exact .inl h0
      · exact h.mj h0
    · exact h.mkd k (by omega), fun hj => absurd rfl hj, h.be, h.up⟩
def ga : Value → Option Addr
  | .slice a _ _ => a
  | _ => none
def gn : Value → Nat
  | .slice _ n _ => n
  | _ => 0
def gc : Value → Nat
  | .slice _ _ c => c
  | _ => 0
def vAt (L : List Rec) (k : Nat) : Value := match L[k]? with
  | some r => r.v
  | none => .slice none 0 0
theorem Bk.rows {W : World} {base bb : Nat} {L : List Rec} {lv wv : Value} {held : Int} (h : Bk W base bb L lv wv held) :
    L.map (·.v) = ((List.range L.length).map fun k => .slice (ga (vAt L k)) (gn (vAt L k)) (gc (vAt L k))) ∧ (∀ k, k < L.length → Room W base (ga (vAt L k)) (gc (vAt L k)) ∧ gc (vAt L k) ≤ maxLen ∧ (gc (vAt L k) = 0 → gn (vAt L k) = 0)) ∧
    ∀ i k, i < L.length → k < L.length → k ≠ i → ∀ x y, ga (vAt L k) = some x → ga (vAt L i) = some y → x.block ≠ y.block := by
  have hv : ∀ k, k < L.length → ∃ r, L[k]? = some r ∧ vAt L k = r.v := fun k hk => ⟨_, List.getElem?_eq_getElem hk, by unfold vAt; rw [List.getElem?_eq_getElem hk]⟩
  have hs : ∀ k, k < L.length → vAt L k = .slice (ga (vAt L k)) (gn (vAt L k)) (gc (vAt L k)) := fun k hk => by
    obtain ⟨r, hr, e⟩ := hv k hk
    obtain ⟨a, c, e2, _⟩ := (h.vs r (List.mem_of_getElem? hr)).1.shape
    rw [e, e2]
    rfl
  refine ⟨?_, fun k hk => ?_, fun i k hi hk hki x y hx hy hxy => ?_⟩
  · apply List.ext_getElem?
    intro k
    rw [List.getElem?_map, List.getElem?_map]
    rcases Nat.lt_or_ge k L.length with hk | hk
    · obtain ⟨r, hr, e⟩ := hv k hk
      rw [hr, List.getElem?_range hk]
      simp only [Option.map_some]
      rw [← e, ← hs k hk]
    · rw [List.getElem?_eq_none hk, List.getElem?_eq_none (by simpa using hk)]
      rfl
  · obtain ⟨r, hr, e⟩ := hv k hk
    have h1 := (h.vs r (List.mem_of_getElem? hr)).1
    rw [e]
    rcases h1.at' with ⟨h2, h3⟩ | ⟨g, o, cap, cur, h2, h3, h4, h5, h6, h7, _⟩
    · rw [h2]
      exact ⟨.inl rfl, Nat.zero_le _, fun _ => rfl⟩
    · rw [h2]
      exact ⟨.inr ⟨g, o, cur, rfl, h3, h4, h7⟩, h6, fun h => by show r.n = 0; have : cap = 0 := h; omega⟩
  · have own : ∀ k, k < L.length → ∀ x, ga (vAt L k) = some x → ∀ r, L[k]? = some r → r.v.ownBlock = some x.block := fun k hk x hx r hr => by
      obtain ⟨r', hr', e⟩ := hv k hk
      rw [hr] at hr'
      cases hr'
      obtain ⟨a, c, e2, _⟩ := (h.vs r (List.mem_of_getElem? hr)).1.shape
      rw [e, e2] at hx
      rw [e2]
      have hx' : a = some x := hx
      rw [hx']
      rfl
    have e1 := own k hk x hx _ (List.getElem?_eq_getElem hk)
    have e2 := own i hi y hy _ (List.getElem?_eq_getElem hi)
    have hp := List.pairwise_iff_getElem.1 h.ds
    rcases Nat.lt_or_gt_of_ne hki with hlt | hlt
    · exact hp k i hk hi hlt _ e1 (by rw [hxy]; exact e2)
    · exact hp i k hi hk hlt _ e2 (by rw [← hxy]; exact e1)

theorem Bk.owns {W : World} {base bb : Nat} {L : List Rec} {lv wv : Value} {held : Int} (h : Bk W base bb L lv wv held) : ∀ k, k < L.length → ∀ x, ga (vAt L k) = some x → ∃ r, r ∈ L ∧ r.v.ownBlock = some x.block := fun k hk x hx => by
  have hr := List.getElem?_eq_getElem hk
  unfold vAt at hx
  rw [hr] at hx
  refine ⟨_, List.mem_of_getElem? hr, ?_⟩
  obtain ⟨a, c, e2, _⟩ := (h.vs _ (List.mem_of_getElem? hr)).1.shape
  have hx' : ga (L[k]).v = some x := hx
  rw [e2] at hx' ⊢
  have hx2 : a = some x := hx'
  rw [hx2]
  rfl

set_option linter.unusedSimpArgs false in
set_option maxHeartbeats 4000000 in
set_option maxRecDepth 100000 in
theorem Apart_full (mf : Nat) (M0 : Nat → Nat → Int) (hmk : ∀ (i j : Nat) (w : World), i ≤ 10000000 → j ≤ maxLen → Calls Tryd.prog mf #[.int .i64 i, .int .i64 j] w fun e w' => e = .returned (.int .i64 (M0 i j)) ∧ Below w.heap.size w w')
    (heg : ∀ args w, (callFunc mf args).run Tryd.prog w = .ok (.enter mf args) w) (bb base : Nat) (L : List Rec) (lv wv : Value) (held : Int) (W : World) (h : Bk W base bb L lv wv held) (hL : L.length ≤ 10000000) (hbase : base ≤ W.heap.size) :
    Calls Tryd.prog 37 #[.pointer (some ⟨bb, 0, none⟩), .func (.func mf) #[] #[]] W fun e W' => e = .returned (.bool true) ∧ Below base W W' ∧ Upd (fun b => b = bb ∨ ∃ r, r ∈ L ∧ r.v.ownBlock = some b) W W' := by
  have HST := Lib.hid (Stays_calls bb base L lv wv held W h hL)
  obtain ⟨hr1, hr2, hr3⟩ := h.rows
  have hown := h.owns
  obtain ⟨n, hn⟩ : ∃ n, L.length = n := ⟨_, rfl⟩
  obtain ⟨A, hA⟩ : ∃ A : Nat → Option Addr, (fun k => ga (vAt L k)) = A := ⟨_, rfl⟩
  obtain ⟨N, hN⟩ : ∃ N : Nat → Nat, (fun k => gn (vAt L k)) = N := ⟨_, rfl⟩
  obtain ⟨C, hC⟩ : ∃ C : Nat → Nat, (fun k => gc (vAt L k)) = C := ⟨_, rfl⟩
  have hll := h.ll
  rw [hr1] at hll
  simp only [show ∀ k, ga (vAt L k) = A k from fun k => by rw [← hA], show ∀ k, gn (vAt L k) = N k from fun k => by rw [← hN], show ∀ k, gc (vAt L k) = C k from fun k => by rw [← hC], hn] at hr2 hr3 hll hown
  have HOWN := Lib.hid hown
  have HAP := Lib.hid (show Ap M0 W base bb A C N n lv wv held W 0 0 from ⟨h.bk, hll, fun k hk => (hr2 k hk).1, fun k hk => by omega, fun h => absurd rfl h, Below.refl _ _, Upd.refl _ _⟩)
  have HR2 := Lib.hid hr2
  have HR3 := Lib.hid hr3
  have HMK := Lib.hid hmk
  obtain ⟨al, cl, rfl, hcl, _, _⟩ := h.ll.shape
  obtain ⟨aw, cw, rfl, hcw, _, _⟩ := h.wl.shape
  rw [hn] at HAP hcl hcw hL
  have HLO := Lib.hid h.lo
  clear hown hr1 hr2 hr3 hA hN hC hll hmk h hn
  go_enter Tryd.func37, Tryd.ntmps37
  go_wp2_with fail
  refine HST.out.mono ?_
  rintro e W1 ⟨rfl, hb1⟩
  have HAP := Lib.hid (HAP.out.below hb1 hbase)
  have hbase1 : base ≤ W1.heap.size := Nat.le_trans hbase hb1.size
  clear hb1 HST
  go_wp2_with fail
  go_loopg [5] n (fun g s5 wr => ∃ i : Nat, i ≤ n ∧ g = n - i ∧ s5 = .int .i64 i ∧ Ap M0 wr base bb A C N n (.slice al n cl) (.slice aw n cw) held W i 0 ∧ base ≤ wr.heap.size)
  case atStart => exact ⟨0, Nat.zero_le _, by omega, rfl, HAP.out, hbase1⟩
  case round =>
    obtain ⟨i, hi, hg, rfl, hap, hbr⟩ := hrel
    have HG := Lib.hid hg
    have HAP := Lib.hid hap
    have HB := Lib.hid hap.bk
    clear hg
    have k0 := cell_at HB.out 0
    have kz := lt_of_heap HB.out
    simp only [List.getElem?_toArray, List.getElem?_cons_zero] at k0
    by_cases hlt : i < n
    · have hlti : (i : Int) < n := by omega
      obtain ⟨g1, o1, rfl, _, z1, fl0⟩ := hap.ll.cells (by omega)
      have p0 : wr.cell? ⟨g1, o1 + i, none⟩ = some (.slice (A i) (N i) (C i)) := fl0 i _ (by rw [List.getElem?_map, List.getElem?_range hlt]; rfl)
      have hci : C i ≤ maxLen := (HR2.out i hlt).2.1
      clear fl0
      by_cases hc0 : C i = 0
      · have hn0 := (HR2.out i hlt).2.2 hc0
        rw [hc0, hn0] at p0
        clear hap
        go_wp2_with fail
        refine region_calm (by kernel_rfl) (by kernel_rfl) ?_
        repeat (quiet_step ((fail)))
        refine wpQuiet_nil ?_
        rintro _ ⟨x, rfl⟩
        have HAP := Lib.hid (HAP.out.below x.h hbr)
        have hbr1 : base ≤ x.w.heap.size := Nat.le_trans hbr x.h.size
        generalize x.w = V at HAP hbr1 ⊢
        clear x k0 kz p0 z1
        go_wp2_with fail
        go_loopg [7] 0 (fun g s7 wq => g = 0 ∧ s7 = .int .i64 0 ∧ Ap M0 wq base bb A C N n (.slice (some ⟨g1, o1, none⟩) n cl) (.slice aw n cw) held W i 0 ∧ base ≤ wq.heap.size)
        case atStart => exact ⟨rfl, rfl, HAP.out, hbr1⟩
        case round =>
          obtain ⟨rfl, rfl, hap, hbq⟩ := hrel
          have HAP := Lib.hid hap
          clear hap
          go_wp2_with fail
          go_roundg (n - (i + 1))
          case measure => have := HG.out; omega
          case rel => exact ⟨i + 1, by omega, rfl, by go_num, (by rw [← hc0] at HAP; exact HAP.out.next), hbq⟩
      · rcases hap.rm i hlt with h0 | ⟨g, o, cur, ha, hgb, hgc, hgs⟩
        · omega
        rw [ha] at p0
        have HA := Lib.hid ha
        have c1 : ¬ C i = 0 := hc0
        clear hap hgc hgs ha
        obtain ⟨c, hcc⟩ : ∃ c, C i = c := ⟨_, rfl⟩
        rw [hcc] at p0 c1 hci hc0
        have HCC := Lib.hid hcc
        have hci2 : c ≤ 9223372036854775807 := by unfold maxLen at hci; omega
        clear hcc
        go_wp2_with fail
        refine region_calm (by kernel_rfl) (by kernel_rfl) ?_
        repeat (quiet_step ((fail)))
        refine wpQuiet_nil ?_
        rintro _ ⟨x, rfl⟩
        have HAP := Lib.hid (HAP.out.below x.h hbr)
        have hbr1 : base ≤ x.w.heap.size := Nat.le_trans hbr x.h.size
        generalize x.w = V at HAP hbr1 ⊢
        clear x k0 kz p0 z1
        go_wp2_with fail
        go_loopg [7] c (fun g' s7 wq => ∃ j : Nat, j ≤ c ∧ g' = c - j ∧ s7 = .int .i64 j ∧ Ap M0 wq base bb A C N n (.slice (some ⟨g1, o1, none⟩) n cl) (.slice aw n cw) held W i j ∧ base ≤ wq.heap.size)
        case atStart => exact ⟨0, Nat.zero_le _, by omega, rfl, HAP.out, hbr1⟩
        case round =>
          obtain ⟨j, hj, hg2, rfl, hap, hbq⟩ := hrel
          have HG2 := Lib.hid hg2
          have HAP := Lib.hid hap
          clear hap hg2
          by_cases hjl : j < c
          · have hjl' : (j : Int) < c := by omega
            go_wp2_with fail
            refine (HMK.out i j _ (by omega) (by omega)).mono ?_
            rintro e V2 ⟨rfl, hb2⟩
            have HAP := Lib.hid (HAP.out.below hb2 hbq)
            have hbq2 : base ≤ V2.heap.size := Nat.le_trans hbq hb2.size
            clear hb2
            rcases HAP.out.rm i hlt with h0 | ⟨g', o', cur2, ha2, _, hgc, hgs⟩
            · rw [HCC.out] at h0; omega
            rw [HA.out] at ha2
            cases ha2
            rw [HCC.out] at hgs
            have HGC := Lib.hid hgc
            have hz := lt_of_heap hgc
            have f0 := free_all hgc
            obtain ⟨v0, d0⟩ : ∃ v, V2.cell? ⟨g, o + j, none⟩ = some v := ⟨_, by rw [cell_at hgc, Array.getElem?_eq_getElem (by omega)]⟩
            clear hgc
            go_wp2_with fail
            clear d0 f0
            go_roundg (c - (j + 1))
            case measure => have := HG2.out; omega
            case rel =>
              have h0 := heap_set HGC.out (o + j) (.int .i64 (M0 i j))
              have hu := ((Upd.refl (fun b => b = g) V2).setCell (S := fun b => b = g) (p := ⟨g, o + j, none⟩) (fun _ => rfl) (.int .i64 (M0 i j)))
              refine ⟨j + 1, by omega, rfl, by go_num, HAP.out.write hlt (by rw [HCC.out]; exact hjl) (fun k hk hki x y hx hy _ => HR3.out i k hlt hk hki x y hx hy) HA.out HGC.out hu h0 (by simp) (fun p hp => ?_) ?_ hbq2, Nat.le_trans hbq2 hu.size⟩
              · simp only [Array.getElem?_setIfInBounds_ne (show o + j ≠ p by omega)]
              · exact by simp [Array.getElem?_setIfInBounds]; omega
          · have hjc : j = c := by omega
            subst hjc
            go_wp2_with fail
            go_roundg (n - (i + 1))
            case measure => have := HG.out; omega
            case rel => exact ⟨i + 1, by omega, rfl, by go_num, (by rw [← HCC.out] at HAP; exact HAP.out.next), hbq⟩
    · have hin : i = n := by omega
      subst hin
      clear hap
      go_wp2_with fail
      clear k0 kz
      go_loopg [8] i (fun g s8 wr => ∃ q : Nat, q ≤ i ∧ g = i - q ∧ s8 = .int .i64 q ∧ Ap M0 wr base bb A C N i (.slice al i cl) (.slice aw i cw) held W i 0 ∧ base ≤ wr.heap.size)
      case atStart => exact ⟨0, Nat.zero_le _, by omega, rfl, HAP.out, hbr⟩
      case round =>
        obtain ⟨q, hq, hg, rfl, hap, hbr⟩ := hrel
        have HG := Lib.hid hg
        have HAP := Lib.hid hap
        have HB := Lib.hid hap.bk
        clear hg
        have k0 := cell_at HB.out 0
        have kf := free_all HB.out
        have kz := lt_of_heap HB.out
        simp only [List.getElem?_toArray, List.getElem?_cons_zero] at k0
        by_cases hlt : q < i
        · have hlti : (q : Int) < i := by omega
          obtain ⟨g1, o1, rfl, _, z1, fl0⟩ := hap.ll.cells (by omega)
          have p0 : wr.cell? ⟨g1, o1 + q, none⟩ = some (.slice (A q) (N q) (C q)) := fl0 q _ (by rw [List.getElem?_map, List.getElem?_range hlt]; rfl)
          have hci : C q ≤ maxLen := (HR2.out q hlt).2.1
          clear fl0
          by_cases hc0 : C q = 0
          · have hn0 := (HR2.out q hlt).2.2 hc0
            rw [hc0, hn0] at p0
            clear hap
            go_wp2_with fail
            refine region_calm (by kernel_rfl) (by kernel_rfl) ?_
            repeat (quiet_step ((fail)))
            refine wpQuiet_nil ?_
            rintro _ ⟨x, rfl⟩
            have HAP := Lib.hid (HAP.out.below x.h hbr)
            have hbr1 : base ≤ x.w.heap.size := Nat.le_trans hbr x.h.size
            generalize x.w = V at HAP hbr1 ⊢
            clear x k0 kf kz p0 z1
            go_wp2_with fail
            go_loopg [10] 0 (fun g s10 wq => g = 0 ∧ s10 = .int .i64 0 ∧ Ap M0 wq base bb A C N i (.slice (some ⟨g1, o1, none⟩) i cl) (.slice aw i cw) held W i 0 ∧ base ≤ wq.heap.size)
            case atStart => exact ⟨rfl, rfl, HAP.out, hbr1⟩
            case round =>
              obtain ⟨rfl, rfl, hap, hbq⟩ := hrel
              have HAP := Lib.hid hap
              clear hap
              go_wp2_with fail
              go_roundg (i - (q + 1))
              case measure => have := HG.out; omega
              case rel => exact ⟨q + 1, by omega, rfl, by go_num, HAP.out, hbq⟩
          · rcases hap.rm q hlt with h0 | ⟨g, o, cur, ha, hgb, hgc, hgs⟩
            · omega
            rw [ha] at p0
            have HA := Lib.hid ha
            have c1 : ¬ C q = 0 := hc0
            clear hap hgc hgs ha
            obtain ⟨c, hcc⟩ : ∃ c, C q = c := ⟨_, rfl⟩
            rw [hcc] at p0 c1 hci hc0
            have HCC := Lib.hid hcc
            have hci2 : c ≤ 9223372036854775807 := by unfold maxLen at hci; omega
            clear hcc
            go_wp2_with fail
            refine region_calm (by kernel_rfl) (by kernel_rfl) ?_
            repeat (quiet_step ((fail)))
            refine wpQuiet_nil ?_
            rintro _ ⟨x, rfl⟩
            have HAP := Lib.hid (HAP.out.below x.h hbr)
            have hbr1 : base ≤ x.w.heap.size := Nat.le_trans hbr x.h.size
            generalize x.w = V at HAP hbr1 ⊢
            clear x k0 kf kz p0 z1
            go_wp2_with fail
            go_loopg [10] c (fun g' s10 wq => ∃ j : Nat, j ≤ c ∧ g' = c - j ∧ s10 = .int .i64 j ∧ Ap M0 wq base bb A C N i (.slice (some ⟨g1, o1, none⟩) i cl) (.slice aw i cw) held W i 0 ∧ base ≤ wq.heap.size)
            case atStart => exact ⟨0, Nat.zero_le _, by omega, rfl, HAP.out, hbr1⟩
            case round =>
              obtain ⟨j, hj, hg2, rfl, hap, hbq⟩ := hrel
              have HG2 := Lib.hid hg2
              have HAP := Lib.hid hap
              clear hap hg2
              by_cases hjl : j < c
              · have hjl' : (j : Int) < c := by omega
                have HM := Lib.hid (fun (x : Later wr) => HMK.out q j x.w (by omega) (by omega))
                rcases HAP.out.mkd q hlt with h0 | ⟨g', o', cur2, ha2, hgc, hmm⟩
                · rw [HCC.out] at h0; omega
                rw [HA.out] at ha2
                cases ha2
                have hmj := hmm j (by rw [HCC.out]; exact hjl)
                have hz := lt_of_heap hgc
                have d0 := (cell_at hgc (o + j)).trans hmj
                clear hgc hmm hmj
                go_wp2_with fail
                refine region_calm (by kernel_rfl) (by kernel_rfl) ?_
                repeat (quiet_step ((exact later_call (HM.out _))))
                refine wpQuiet_nil ?_
                rintro _ ⟨x, rfl⟩
                have HAP := Lib.hid (HAP.out.below x.h hbq)
                have hbq2 : base ≤ x.w.heap.size := Nat.le_trans hbq x.h.size
                generalize x.w = V2 at HAP hbq2 ⊢
                clear x hz d0 HM
                go_wp2_with fail
                go_roundg (c - (j + 1))
                case measure => have := HG2.out; omega
                case rel => exact ⟨j + 1, by omega, rfl, by go_num, HAP.out, hbq2⟩
              · have hjc : j = c := by omega
                subst hjc
                go_wp2_with fail
                go_roundg (i - (q + 1))
                case measure => have := HG.out; omega
                case rel => exact ⟨q + 1, by omega, rfl, by go_num, HAP.out, hbq⟩
        · have hqi : q = i := by omega
          subst hqi
          have k1 := cell_at HB.out 1
          have k2 := cell_at HB.out 2
          have kf := free_all HB.out
          have kz := lt_of_heap HB.out
          simp only [List.getElem?_toArray, List.getElem?_cons_zero, List.getElem?_cons_succ] at k1 k2
          have hlo : base ≤ bb := HLO.out
          clear hap
          go_wp2_with fail
          go_ret
          exact ⟨rfl, ((HAP.out.be.setCell (p := ⟨bb, 0, none⟩) hlo _).setCell (p := ⟨bb, 1, none⟩) hlo _).setCell (p := ⟨bb, 2, none⟩) hlo _,
            (((HAP.out.up.setCell (S := Touched bb A q) (p := ⟨bb, 0, none⟩) (fun _ => .inl rfl) _).setCell (S := Touched bb A q) (p := ⟨bb, 1, none⟩) (fun _ => .inl rfl) _).setCell (S := Touched bb A q) (p := ⟨bb, 2, none⟩) (fun _ => .inl rfl) _).mono fun b _ h => h.imp id fun ⟨k, hk, x, hx, hb⟩ => by subst hb; exact HOWN.out k hk x hx⟩

/-- The same, less said. -/
theorem Apart_calls (mf : Nat) (M0 : Nat → Nat → Int) (hmk : ∀ (i j : Nat) (w : World), i ≤ 10000000 → j ≤ maxLen → Calls Tryd.prog mf #[.int .i64 i, .int .i64 j] w fun e w' => e = .returned (.int .i64 (M0 i j)) ∧ Below w.heap.size w w')
    (heg : ∀ args w, (callFunc mf args).run Tryd.prog w = .ok (.enter mf args) w) (bb base : Nat) (L : List Rec) (lv wv : Value) (held : Int) (W : World) (h : Bk W base bb L lv wv held) (hL : L.length ≤ 10000000) (hbase : base ≤ W.heap.size) :
    Calls Tryd.prog 37 #[.pointer (some ⟨bb, 0, none⟩), .func (.func mf) #[] #[]] W fun e W' => e = .returned (.bool true) ∧ Below base W W' :=
  (Apart_full mf M0 hmk heg bb base L lv wv held W h hL hbase).mono fun _ _ h => ⟨h.1, h.2.1⟩
end Go.Proofs.YtkjkgpdfhmoenaaDoor.BookInt
