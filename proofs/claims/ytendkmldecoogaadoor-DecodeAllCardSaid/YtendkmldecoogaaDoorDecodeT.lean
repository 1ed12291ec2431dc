/-
  decode.Text, decode.Ready.
-/
import Derived.Test.YtendkmldecoogaaDoorDecode
import Derived.Test.YtendkmldecoogaaDoorUtfGo
namespace Go.Proofs.YtendkmldecoogaaDoor.DecodeT
open Go Go.RowKit Go.Lib Go.Proofs.YtendkmldecoogaaDoor.Kit Go.Proofs.YtendkmldecoogaaDoor.Dt Go.Proofs.YtendkmldecoogaaDoor.MoNew Go.Proofs.YtendkmldecoogaaDoor.Good Go.Proofs.YtendkmldecoogaaDoor.Utf Go.Proofs.YtendkmldecoogaaDoor.It Go.Proofs.YtendkmldecoogaaDoor.ItGo Go.Proofs.YtendkmldecoogaaDoor.UtfLaw Go.Proofs.YtendkmldecoogaaDoor.UtfGo Go.Proofs.YtendkmldecoogaaDoor.Decode
attribute [local irreducible] wpQuiet

theorem get_ge (s : ByteArray) (k : Nat) (h : ¬ k < s.size) : s.get! k = default := by
  cases s with
  | mk bs => exact getElem!_neg bs k h
theorem decode_from (s : ByteArray) (pos : Nat) (h : pos < s.size) : Utf8.decode s pos = dec (s.data.toList.drop pos) := by
  have e := decode_dec (s.extract pos s.size) (by simp; omega)
  rw [drop_list s pos _ rfl] at e
  rw [← e, Lib.decode_at, Lib.decode_at]
  have hg : ∀ k, pos + k < s.size → (s.extract pos s.size).get! (0 + k) = s.get! (pos + k) := fun k hk => by
    rw [Utf8W.get!_of_lt _ _ (by simp; omega), Utf8W.get!_of_lt _ _ hk, byte_at (by simp; omega), byte_at hk, drop_list s pos _ rfl]
    simp [List.getD]
  have hz : (s.extract pos s.size).size - 0 = s.size - pos := by simp
  have hgt : ∀ k, ¬ pos + k < s.size → (s.extract pos s.size).get! (0 + k) = s.get! (pos + k) := fun k hk => by
    rw [get_ge _ _ (by simp; omega), get_ge _ _ hk]
  have hall : ∀ k, (s.extract pos s.size).get! (0 + k) = s.get! (pos + k) := fun k => by
    by_cases hk : pos + k < s.size
    · exact hg k hk
    · exact hgt k hk
  have h0 := hall 0
  rw [Nat.add_zero, Nat.add_zero] at h0
  rw [hz, hall 1, hall 2, hall 3, h0]

/-- U+FFFD as it is written stands there just if that is what was read. -/
theorem bad_prefix {l : List UInt8} (hl : l ≠ []) (hr : (dec l).1 = 65533) : Lib.hasPrefix l [239, 191, 189] = !decide (width l = 0) := by
  by_cases hw : width l = 0
  · rw [decide_eq_true hw]
    unfold Lib.hasPrefix
    rw [Bool.not_true, Bool.eq_false_iff]
    intro hp
    rw [List.isPrefixOf_iff_prefix] at hp
    obtain ⟨t, rfl⟩ := hp
    rcases width_cases ([239, 191, 189] ++ t) with ⟨h, q⟩ | ⟨h, _⟩ | ⟨h, _⟩ | ⟨h, _⟩ | ⟨h, q1, q2, q3, q4⟩
    · simp [by'] at q
    · omega
    · omega
    · omega
    · refine q3 ⟨by simp [by'], by simp [by'], by simp, ?_, ?_⟩
      · unfold ok second; simp [by']
      · unfold ok; simp [by']
  · rw [decide_eq_false hw]
    unfold Lib.hasPrefix
    rw [Bool.not_false, List.isPrefixOf_iff_prefix]
    have h1 := encode_rune hw hl
    unfold dec at hr
    rw [if_neg hw] at hr
    simp only at hr
    rw [hr] at h1
    have h2 : l.take (width l) = [239, 191, 189] := by
      have h3 : (l.take (width l)).map (fun x => (x.toNat : Int)) = ([239, 191, 189] : List UInt8).map (fun x => (x.toNat : Int)) := by
        rw [← h1]
        simp [Lib.encodeRuneZ]
      have inj : ∀ a b : List UInt8, a.map (fun x => (x.toNat : Int)) = b.map (fun x => (x.toNat : Int)) → a = b := by
        intro a
        induction a with
        | nil => intro b h; cases b with
          | nil => rfl
          | cons y b => simp at h
        | cons x a ih => intro b h; cases b with
          | nil => simp at h
          | cons y b =>
            simp only [List.map_cons, List.cons.injEq, Int.natCast_inj] at h
            rw [UInt8.toNat_inj.1 h.1, ih b h.2]
      exact inj _ _ h3
    exact ⟨l.drop (width l), by rw [← h2, List.take_append_drop]⟩

set_option maxHeartbeats 4000000 in
set_option maxRecDepth 100000 in
theorem Text_calls (w : World) (mb : Nat) (D : Dt) (hM : Mod w mb D) (hT : Tabs w) (a : Option Addr) (len cap : Nat) (F : Nat → Int) (hr : SameInt.Row w a len F) (hl : len ≤ 1000000) (hid : ∀ i, i < len → -9223372036854775808 ≤ F i ∧ F i ≤ 9223372036854775807) :
    Calls Tryd.prog 41 #[.pointer (some ⟨mb, 0, none⟩), .slice a len cap] w fun e w' => e = .returned (.tuple #[.string ⟨(rep (txt D F (upto D F len)).data.toList).toArray⟩, .int .i64 (upto D F len)]) ∧ Below w.heap.size w w' := by
  have HT := Lib.hid hT
  have hz := txt_size (of_mod hM) F (upto D F len)
  have hule := upto_le D F len
  have HBY := Lib.hid (Bytes_calls w mb D hM a len cap F hr hl hid)
  obtain ⟨R, hR⟩ : ∃ R, upto D F len = R := ⟨_, rfl⟩
  rw [hR] at HBY hz hule ⊢
  obtain ⟨s, hs⟩ : ∃ s, txt D F R = s := ⟨_, rfl⟩
  rw [hs] at HBY hz ⊢
  have hsl := size_list s
  clear hR hs hM hr
  go_enter Tryd.func41, Tryd.ntmps41
  go_wp2_with fail
  refine HBY.out.mono ?_
  rintro e W1 ⟨rfl, hb1⟩
  have HB := Lib.hid hb1
  have HT1 := Lib.hid (HT.out.below hb1)
  clear hb1
  go_wp2_with fail
  obtain ⟨ib, hib⟩ : ∃ z, W1.heap.size = z := ⟨_, rfl⟩
  have hit : (W1.iter s 0).heap[ib]? = some (.stringIter s 0) := by rw [← hib]; exact World.iter_heap W1 s 0
  have hb2 : Below W1.heap.size W1 (W1.iter s 0) := (Below.refl _ _).alloc (Nat.le_refl _) _
  have HB2 := Lib.hid (chain HB.out hb2)
  have hwz : w.heap.size ≤ ib := by rw [← hib]; exact HB.out.size
  rw [hib]
  generalize W1.iter s 0 = W2 at hit hb2 HB2 ⊢
  have HIT := Lib.hid hit
  have HT2 := Lib.hid (HT1.out.below hb2)
  clear hit hb2 hib
  go_loopg [] s.size (fun g wr => ∃ pos : Nat, pos ≤ s.size ∧ g = s.size - pos ∧ wr.heap[ib]? = some (.stringIter s pos) ∧ Below w.heap.size w wr ∧ rep s.data.toList = s.data.toList.take pos ++ rep (s.data.toList.drop pos))
  case atStart => exact ⟨0, Nat.zero_le _, rfl, HIT.out, HB2.out, rfl⟩
  case round =>
    obtain ⟨pos, hp, hg, hit, hb, hrp⟩ := hrel
    have HG := Lib.hid hg
    have HIT := Lib.hid hit
    have HB := Lib.hid hb
    have HRP := Lib.hid hrp
    have HTW := Lib.hid (HT.out.below hb)
    clear hg hb hrp
    by_cases hlt : pos < s.size
    · have hnx := fun ty => Lib.run_next_any_at (P := Tryd.prog) wr ib s pos ty hit hlt
      rw [decode_from s pos hlt] at hnx
      have hne : s.data.toList.drop pos ≠ [] := by
        intro h
        have := congrArg List.length h
        rw [List.length_drop, hsl] at this
        simp at this
        omega
      have hrl := rune_le (s.data.toList.drop pos)
      have hd2 : (dec (s.data.toList.drop pos)).2 = (It.one 0 (s.data.toList.drop pos)).bytes := rfl
      have hb1 := one_pos 0 (s.data.toList.drop pos)
      have hb2 := one_le 0 hne
      rw [← hd2] at hb1 hb2
      rw [List.length_drop, hsl] at hb2
      obtain ⟨r, hr⟩ : ∃ r, (dec (s.data.toList.drop pos)).1 = r := ⟨_, rfl⟩
      obtain ⟨n, hn⟩ : ∃ n, (dec (s.data.toList.drop pos)).2 = n := ⟨_, rfl⟩
      rw [hr] at hnx hrl
      rw [hn] at hnx hb1 hb2
      obtain ⟨W3, hW3⟩ : ∃ z, wr.iterAt ib s (pos + n) = z := ⟨_, rfl⟩
      rw [hW3] at hnx
      have HIT3 := Lib.hid (show W3.heap[ib]? = some (.stringIter s (pos + n)) from by rw [← hW3]; exact Lib.iterAt_heap wr ib s pos (pos + n) hit)
      have HB3 := Lib.hid (show Below w.heap.size w W3 from by rw [← hW3]; exact Lib.below_iterAt HB.out hwz s (pos + n))
      have HT3 := Lib.hid (HT.out.below HB3.out)
      have HR := Lib.hid hr
      have HN := Lib.hid hn
      have HNE := Lib.hid hne
      clear hW3 hit hr hn hd2 hne
      have good : width (s.data.toList.drop pos) ≠ 0 → rep s.data.toList = s.data.toList.take (pos + n) ++ rep (s.data.toList.drop (pos + n)) := fun hw => by
        have h1 := HRP.out
        have hn2 : n = width (s.data.toList.drop pos) := by rw [← HN.out]; unfold dec; rw [if_neg hw]
        rw [rep_good hw HNE.out, ← hn2, List.drop_drop] at h1
        rw [h1, ← List.append_assoc]
        congr 1
        rw [List.take_add]
      have HGD := Lib.hid good
      clear good
      by_cases h65 : r = 65533
      · have HPX := Lib.hid (Shelf.strings_HasPrefix (s.extract pos s.size) ⟨#[239, 191, 189]⟩ W3)
        rw [drop_list s pos _ rfl, show (⟨#[239, 191, 189]⟩ : ByteArray).data.toList = [239, 191, 189] from rfl, bad_prefix HNE.out (by rw [HR.out]; exact h65)] at HPX
        obtain ⟨bw, hbw⟩ : ∃ bw, decide (width (s.data.toList.drop pos) = 0) = bw := ⟨_, rfl⟩
        rw [hbw] at HPX
        have HBW := Lib.hid hbw
        have hpi : (0 : Int) ≤ pos := by omega
        have hpj : (pos : Int) ≤ s.size := by omega
        subst h65
        clear hbw hrl
        go_wp2_with fail
        rw [show Utf8.encode 65533 = ⟨#[239, 191, 189]⟩ by kernel_rfl]
        refine HPX.out.mono ?_
        rintro e w' ⟨rfl, rfl⟩
        cases bw with
        | true =>
          go_wp2_with fail
          refine (Replace_calls s w' HT3.out (by omega)).mono ?_
          rintro e w4 ⟨rfl, hb4⟩
          have HB := Lib.hid (chain HB3.out hb4)
          clear hb4
          go_wp2_with fail
          go_ret2
          exact ⟨rfl, HB.out⟩
        | false =>
          have HG2 := Lib.hid (HGD.out (of_decide_eq_false HBW.out))
          go_wp2_with fail
          go_roundg (s.size - (pos + n))
          case measure => have := HG.out; omega
          case rel => exact ⟨pos + n, by omega, rfl, HIT3.out, HB3.out, HG2.out⟩
      · have hw : width (s.data.toList.drop pos) ≠ 0 := fun hw => by
          have := HR.out
          unfold dec at this
          rw [if_pos hw] at this
          exact h65 this.symm
        have HG2 := Lib.hid (HGD.out hw)
        have h65' : ((r : Int) == 65533) = false := by rw [beq_eq_false_iff_ne]; omega
        clear hw h65
        go_wp2_with fail
        go_roundg (s.size - (pos + n))
        case measure => have := HG.out; omega
        case rel => exact ⟨pos + n, by omega, rfl, HIT3.out, HB3.out, HG2.out⟩
    · have hps : pos = s.size := by omega
      have hnx := fun ty => Lib.run_next_end_at (P := Tryd.prog) wr ib s pos ty hit hlt
      have HRS := Lib.hid (show rep s.data.toList = s.data.toList from by
        have := HRP.out
        rw [hps, List.take_of_length_le (by omega), List.drop_eq_nil_of_le (by omega), rep_nil, List.append_nil] at this
        exact this)
      clear hit
      go_wp2_with fail
      go_ret2
      exact ⟨by rw [HRS.out]; rfl, HB.out⟩

set_option maxRecDepth 100000 in
theorem Ready_calls (w : World) (mb : Nat) (D : Dt) (hM : Mod w mb D) (hT : Tabs w) (a : Option Addr) (len cap : Nat) (F : Nat → Int) (hr : SameInt.Row w a len F) (hl : len ≤ 1000000) (hid : ∀ i, i < len → -9223372036854775808 ≤ F i ∧ F i ≤ 9223372036854775807) :
    Calls Tryd.prog 42 #[.pointer (some ⟨mb, 0, none⟩), .slice a len cap] w fun e w' => e = .returned (.int .i64 (((txt D F (upto D F len)).size : Int) - tailN (txt D F (upto D F len)).data.toList)) ∧ Below w.heap.size w w' := by
  have HT := Lib.hid hT
  have hz := txt_size (of_mod hM) F (upto D F len)
  have hule := upto_le D F len
  have HBY := Lib.hid (Bytes_calls w mb D hM a len cap F hr hl hid)
  obtain ⟨R, hR⟩ : ∃ R, upto D F len = R := ⟨_, rfl⟩
  rw [hR] at HBY hz hule ⊢
  obtain ⟨s, hs⟩ : ∃ s, txt D F R = s := ⟨_, rfl⟩
  rw [hs] at HBY hz ⊢
  have htn : tailN s.data.toList ≤ s.size := by unfold tailN; rw [size_list]; omega
  obtain ⟨n, hn⟩ : ∃ n, tailN s.data.toList = n := ⟨_, rfl⟩
  rw [hn] at htn ⊢
  have HTN := Lib.hid hn
  clear hR hs hM hr hn
  go_enter Tryd.func42, Tryd.ntmps42
  go_wp2_with fail
  refine HBY.out.mono ?_
  rintro e W1 ⟨rfl, hb1⟩
  have HB := Lib.hid hb1
  have HT1 := Lib.hid (HT.out.below hb1)
  have HTC := Lib.hid (Tail_calls s W1 HT1.out (by omega))
  rw [HTN.out] at HTC
  have hw : IntKind.i64.wrap ((s.size : Int) - n) = (s.size : Int) - n := i64w _ (by omega) (by omega)
  clear hb1
  go_wp2_with fail
  refine HTC.out.mono ?_
  rintro e W2 ⟨rfl, hb2⟩
  have HB := Lib.hid (chain HB.out hb2)
  clear hb2
  go_wp2_with fail
  go_ret
  exact ⟨rfl, HB.out⟩
end Go.Proofs.YtendkmldecoogaaDoor.DecodeT
