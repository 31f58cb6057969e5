/- pithlaw2.CrcBehind, CrcZeros, CrcBurst: the walks -/
import Derived.Test.YtcjedjknelgagaaDoorLawSteps
namespace Go.Proofs.YtcjedjknelgagaaDoor
open Go.RowKit Go.ChangeShapes Go.WideShapes Go.ChangeAt
set_option linter.unusedSimpArgs false
set_option linter.unusedVariables false
attribute [local go_sem] u32_signed n32_xor

theorem kBehind (b : List (BitVec 8)) : ((n32 (Crc.sum (b ++ [(Crc.sum b >>> 24).setWidth 8, (Crc.sum b >>> 16).setWidth 8, (Crc.sum b >>> 8).setWidth 8, (Crc.sum b).setWidth 8])) : Int) == 955982468) = true := by
  have h := Crc.sum_behind b
  unfold Crc.be at h
  rw [h]; decide +kernel
set_option maxHeartbeats 1000000 in
theorem law_behind (A : Option Addr) (n cap : Nat) (bs : List (BitVec 8)) (w : World) (hb : Arg8 w A n cap bs) (ht : TabIn w) :
    Calls Tryd.prog 9 #[.slice A n cap] w fun e w' => e = .returned (.bool true) ∧ Below w.heap.size w w' := by
  obtain ⟨hn, hm, hcap, hnil, hr⟩ := hb
  unfold maxLen at hm
  have H1 := Lib.hid (first_calls w ht)
  have Ht := Lib.hid ht; have Hr := Lib.hid hr; have Hn := Lib.hid hn; have Hnil := Lib.hid hnil
  clear ht hr hn hnil
  by_cases hbig : n ≤ 65536
  · have hk := kBehind bs
    go_enter Tryd.func9, Tryd.ntmps9
    go_wp2_with fail
    refine H1.out.mono ?_
    rintro e w1 ⟨rfl, hb1⟩
    have Ht1 := Lib.hid (Ht.out.below hb1); have Hr1 := Lib.hid (Hr.out.below hb1 (Nat.le_refl _))
    have Hb1 := Lib.hid hb1; have hs1 := hb1.size; clear hb1
    go_wp2_with fail
    refine (csum_calls A n cap _ bs w1 Ht1.out Hn.out (by unfold maxLen; omega) Hr1.out).mono ?_
    rintro e w' ⟨rfl, rfl⟩
    go_wp2_with fail
    refine (behind_calls A n cap _ bs _ w1 Hn.out hbig Hnil.out hs1 Hr1.out).mono ?_
    rintro e w2 ⟨A2, cap2, rfl, hown2, hb2⟩
    have Ht2 := Lib.hid (Ht1.out.below hb2)
    have Hb2 := Lib.hid (Hb1.out.trans (hb2.mono hs1))
    have Hown2 := Lib.hid hown2
    clear hb2 hown2
    go_wp2_with fail
    refine (csum_calls A2 (n + 4) cap2 _ _ w2 Ht2.out (by rw [List.length_append, ← Hn.out]; rfl) (by unfold maxLen; omega) (own_rd Hown2.out)).mono ?_
    rintro e w' ⟨rfl, rfl⟩
    go_wp2_with fail
    go_ret
    exact ⟨rfl, Hb2.out⟩
  · go_enter Tryd.func9, Tryd.ntmps9
    go_wp2_with fail
    refine H1.out.mono ?_
    rintro e w1 ⟨rfl, hb1⟩
    have Hb1 := Lib.hid hb1; clear hb1
    go_wp2_with fail
    go_ret
    exact ⟨rfl, Hb1.out⟩

theorem zeros8_list (n : Nat) : (zeros8 n).toList = (List.replicate n (0 : BitVec 8)).map V8 := by
  unfold zeros8
  show (madeCells #[Value.int .u8 0] (n * 1)).toList = _
  rw [toList_madeCells_one, Nat.mul_one, List.map_replicate]; rfl
set_option maxHeartbeats 1000000 in
theorem law_zeros (A : Option Addr) (n cap : Nat) (bs : List (BitVec 8)) (z : Int) (w : World) (hb : Arg8 w A n cap bs) (ht : TabIn w) :
    Calls Tryd.prog 13 #[.slice A n cap, .int .i64 z] w fun e w' => e = .returned (.bool true) ∧ Below w.heap.size w w' := by
  obtain ⟨i0, hi, hz0, hz1, hz2⟩ := info_parts infoU8
  have Hi := Lib.hid hi; clear hi
  obtain ⟨hn, hm, hcap, hnil, hr⟩ := hb
  unfold maxLen at hm
  have H1 := Lib.hid (first_calls w ht)
  have Ht := Lib.hid ht; have Hr := Lib.hid hr; have Hn := Lib.hid hn; have Hnil := Lib.hid hnil
  clear ht hr hn hnil
  by_cases hbig : n ≤ 65536 ∧ 0 ≤ z ∧ z ≤ 65536
  · obtain ⟨hb1, hb2, hb3⟩ := hbig
    obtain ⟨m, rfl⟩ := Int.eq_ofNat_of_zero_le hb2
    have hmk := make_u8 m m (Nat.le_refl _) (by omega)
    have Hj := Lib.hid (show Crc.join (Crc.sum bs) 0#32 (m : Int) ^^^ Crc.sum (List.replicate m 0) = Crc.sum (bs ++ List.replicate m 0) by
      have h := Crc.join_zeros bs (List.replicate m 0)
      rw [List.length_replicate] at h
      rw [← h]; rfl)
    go_enter Tryd.func13, Tryd.ntmps13
    go_wp2_with fail
    refine H1.out.mono ?_
    rintro e w1 ⟨rfl, hb1⟩
    have Ht1 := Lib.hid (Ht.out.below hb1); have Hr1 := Lib.hid (Hr.out.below hb1 (Nat.le_refl _))
    have Hb1 := Lib.hid hb1; have hs1 := hb1.size; clear hb1
    go_wp2_with fail
    have hal : Below w1.heap.size w1 (w1.alloc (.cells (zeros8 m) 5)) := (Below.refl _ _).alloc (Nat.le_refl _) _
    have Hz2 := Lib.hid (show Rd (w1.alloc (.cells (zeros8 m) 5)) (w1.heap.size + 1) (some ⟨w1.heap.size, 0, none⟩) ((List.replicate m (0 : BitVec 8)).map V8) from rd_mark _ _ _ _ (0, 0) _ rfl (zeros8_list m))
    have Ht2 := Lib.hid (Ht1.out.below hal); have Hr2 := Lib.hid (Hr1.out.below hal hs1)
    have Hb2 := Lib.hid (Hb1.out.trans (hal.mono hs1)); have hs2 := Hb2.out.size
    have hsz : (w1.alloc (.cells (zeros8 m) 5)).heap.size = w1.heap.size + 1 := by simp
    have hs12 : w1.heap.size + 1 ≤ (w1.alloc (.cells (zeros8 m) 5)).heap.size := Nat.le_of_eq hsz.symm
    clear hal hsz
    generalize w1.alloc (.cells (zeros8 m) 5) = w2 at *
    refine (csum_calls A n cap _ bs w2 Ht2.out Hn.out (by unfold maxLen; omega) Hr2.out).mono ?_
    rintro e w' ⟨rfl, rfl⟩
    go_wp2_with fail
    refine (joi_calls _ 0#32 _ _ (m : Int) rfl lit0 w2 (by omega)).mono ?_
    rintro e w3 ⟨rfl, hb3⟩
    have Ht3 := Lib.hid (Ht2.out.below hb3); have Hr3 := Lib.hid (Hr2.out.below hb3 hs2); have Hz3 := Lib.hid (Hz2.out.below hb3 hs12)
    have Hb3 := Lib.hid (Hb2.out.trans (hb3.mono hs2)); have hs3 := Hb3.out.size; have hs23 := hb3.size; clear hb3
    go_wp2_with fail
    refine (csum_calls _ m _ _ (List.replicate m 0) w3 Ht3.out (by simp) (by unfold maxLen; omega) Hz3.out).mono ?_
    rintro e w' ⟨rfl, rfl⟩
    go_wp2_with fail
    refine (bytes_calls A n cap _ bs w3 Hn.out (by omega) Hnil.out hs3 Hr3.out).mono ?_
    rintro e w4 ⟨A4, c4, rfl, hown4, hbb⟩
    have hs4 := hbb.size
    have Hz4 := Lib.hid (Hz3.out.below hbb (by omega))
    have Hb4 := Lib.hid (Hb3.out.trans (hbb.mono hs3)); clear hbb
    have Hown4 := Lib.hid hown4; clear hown4
    go_wp2_with (at_builtin; refine wpList_append_rd rfl _ _ 22 rfl w3.heap.size 5 i0 _ 1 descU8s Hi.out hz0 hz1 hz2 rfl _ n (bs.map V8) rfl Hown4.out _ _ m m ((List.replicate m (0 : BitVec 8)).map V8) rfl ?d1 ?d5 Hz4.out (v8_one _) ?d3 ?d4 hs4 ?_)
    case d1 => simp
    case d5 => intro h; cases h
    case d3 => unfold maxLen; omega
    case d4 => omega
    intro v5 w5 hown5 hg5
    obtain ⟨A7, c7, rfl, hc7, _, _⟩ := own_form hown5
    rw [show bs.map V8 ++ List.replicate m (V8 0#8) = (bs ++ List.replicate m 0).map V8 by simp] at hown5
    have Hb5 := Lib.hid (below_own Hb4.out Hown4.out hg5 hs3 hs4)
    have Ht5 := Lib.hid (Ht.out.below Hb5.out)
    have Hown5 := Lib.hid hown5; clear hown5 hg5
    go_wp2_with fail
    refine (csum_calls _ _ _ _ (bs ++ List.replicate m 0) w5 Ht5.out (by rw [List.length_append, ← Hn.out, List.length_replicate]) (by unfold maxLen; omega) (own_rd Hown5.out)).mono ?_
    rintro e w' ⟨rfl, rfl⟩
    rw [← Hj.out]
    go_wp2_with fail
    go_ret
    exact ⟨rfl, Hb5.out⟩
  · have hd : (decide (65536 < (n : Int)) = true) ∨ (decide (65536 < (n : Int)) = false ∧ decide (z < 0) = true) ∨ (decide (65536 < (n : Int)) = false ∧ decide (z < 0) = false ∧ decide (65536 < z) = true) := by
      simp only [decide_eq_true_eq, decide_eq_false_iff_not]; omega
    clear hbig
    rcases hd with h1 | ⟨h1, h2⟩ | ⟨h1, h2, h3⟩
    all_goals
      go_enter Tryd.func13, Tryd.ntmps13
      go_wp2_with fail
      refine H1.out.mono ?_
      rintro e w1 ⟨rfl, hb1⟩
      have Hb1 := Lib.hid hb1; clear hb1
      go_wp2_with fail
      go_ret
      exact ⟨rfl, Hb1.out⟩
theorem walk_behind (A : Option Addr) (n cap : Nat) (bs : List (BitVec 8)) (w : World) (hb : Arg8 w A n cap bs) (ht : TabIn w) :
    Calls Tryd.prog 9 #[.slice A n cap] w fun e w' => e = .returned (.bool true) ∧ Below w.heap.size w w' := law_behind A n cap bs w hb ht
theorem walk_zeros (A : Option Addr) (n cap : Nat) (bs : List (BitVec 8)) (z : Int) (w : World) (hb : Arg8 w A n cap bs) (h1 : (Lit.int .i64 z).wf = true) (ht : TabIn w) :
    Calls Tryd.prog 13 #[.slice A n cap, .int .i64 z] w fun e w' => e = .returned (.bool true) ∧ Below w.heap.size w w' := law_zeros A n cap bs z w hb ht

/-- An index that was brought among the bits of a list. -/
theorem into_bits (a N : Int) (h0 : 0 < N) (h1 : N ≤ 1000000) : ∃ j : Nat, (j : Int) < N ∧ (wrap64 (a.tmod N + N)).tmod N = (j : Int) := by
  have b1 := Int.tmod_lt_of_pos a h0
  have b2 := Int.lt_tmod_of_pos a h0
  have e : wrap64 (a.tmod N + N) = a.tmod N + N := IntWalk.wrap64_in _ (by omega)
  have c1 := Int.emod_nonneg (a.tmod N + N) (show N ≠ 0 by omega)
  have c2 := Int.emod_lt_of_pos (a.tmod N + N) h0
  refine ⟨((a.tmod N + N) % N).toNat, by omega, ?_⟩
  rw [e, Int.tmod_eq_emod_of_nonneg (by omega)]
  omega
theorem kRes (z : BitVec 32) : ((n32 z : Int) == 955982468) = decide (z = 0x38FB2284#32) := by
  by_cases h : z = 0x38FB2284#32
  · subst h; decide +kernel
  · rw [decide_eq_false h, beq_eq_false_iff_ne]
    intro h2
    exact h (n32_inj (by have : n32 0x38FB2284#32 = 955982468 := by decide +kernel
                         omega))
theorem n32_bne (x y : BitVec 32) : ((n32 x : Int) != (n32 y : Int)) = !decide (x = y) := by
  by_cases h : x = y
  · subst h; simp
  · have : (n32 x : Int) ≠ (n32 y : Int) := fun h2 => h (n32_inj (by omega))
    rw [decide_eq_false h, bne_iff_ne.2 this]; rfl

set_option maxHeartbeats 2000000 in
theorem law_burst (A : Option Addr) (n cap : Nat) (bs : List (BitVec 8)) (a : Int) (p : BitVec 32) (w : World) (hb : Arg8 w A n cap bs) (hat : (Lit.int .i64 a).wf = true) (ht : TabIn w) :
    Calls Tryd.prog 10 #[.slice A n cap, .int .i64 a, .int .u32 (n32 p)] w fun e w' => e = .returned (.bool true) ∧ Below w.heap.size w w' := by
  obtain ⟨hn, hm, hcap, hnil, hr⟩ := hb
  unfold maxLen at hm
  obtain ⟨ha1, ha2⟩ := bounds_i64 hat
  clear hat
  have H1 := Lib.hid (first_calls w ht)
  have Ht := Lib.hid ht; have Hr := Lib.hid hr; have Hn := Lib.hid hn; have Hnil := Lib.hid hnil
  clear ht hr hn hnil
  by_cases hbig : n ≤ 65536
  · obtain ⟨u, hu, hu1⟩ := into_bits a (8 * ((n : Int) + 4)) (by omega) (by omega)
    have hne : (8 * ((n : Int) + 4)) ≠ 0 := by omega
    go_enter Tryd.func10, Tryd.ntmps10
    go_wp2_with fail
    refine H1.out.mono ?_
    rintro e w1 ⟨rfl, hb1⟩
    have Ht1 := Lib.hid (Ht.out.below hb1); have Hr1 := Lib.hid (Hr.out.below hb1 (Nat.le_refl _))
    have Hb1 := Lib.hid hb1; have hs1 := hb1.size; clear hb1
    go_wp2_with fail
    refine (csum_calls A n cap _ bs w1 Ht1.out Hn.out (by unfold maxLen; omega) Hr1.out).mono ?_
    rintro e w' ⟨rfl, rfl⟩
    go_wp2_with fail
    refine (behind_calls A n cap _ bs _ w1 Hn.out hbig Hnil.out hs1 Hr1.out).mono ?_
    rintro e w2 ⟨A2, cap2, rfl, hown2, hb2⟩
    have Ht2 := Lib.hid (Ht1.out.below hb2); have Hr2 := Lib.hid (Hr1.out.below hb2 hs1)
    have Hb2 := Lib.hid (Hb1.out.trans (hb2.mono hs1)); have hs2 := Hb2.out.size
    have Hown2 := Lib.hid hown2
    clear hb2 hown2
    have hsum : Crc.sum (bs ++ Crc.be (Crc.sum bs)) = 0x38FB2284#32 := Crc.sum_behind bs
    have htu := Crc.turn_sum (bs ++ Crc.be (Crc.sum bs)) u p
    rw [hsum] at htu
    have Htu := Lib.hid htu; clear htu hsum
    have HL := Lib.hid (show n + 4 = (bs ++ Crc.be (Crc.sum bs)).length by rw [List.length_append, ← Hn.out]; rfl)
    have HO := Lib.hid (show w2.ownsRow w1.heap.size 5 1 (.slice A2 (n + 4) cap2) (n + 4) ((bs ++ Crc.be (Crc.sum bs)).map V8) from Hown2.out)
    clear Hown2
    generalize bs ++ Crc.be (Crc.sum bs) = own at Htu HL HO
    go_wp2_with fail
    refine (turned_calls A2 (n + 4) cap2 _ u p own w2 HL.out (by omega) (by omega) (own_nil HO.out) (Nat.le_refl _) (own_rd HO.out)).mono ?_
    rintro e w3 ⟨A3, cap3, rfl, hown3, hb3⟩
    have Ht3 := Lib.hid (Ht2.out.below hb3); have Hr3 := Lib.hid (Hr2.out.below hb3 hs2)
    have Hb3 := Lib.hid (Hb2.out.trans (hb3.mono hs2)); have hs3 := Hb3.out.size
    have Hown3 := Lib.hid hown3
    clear hb3 hown3
    go_wp2_with fail
    refine (csum_calls A3 (n + 4) cap3 _ _ w3 Ht3.out (by rw [Crc.turnF_length]; exact HL.out) (by unfold maxLen; omega) (own_rd Hown3.out)).mono ?_
    rintro e w' ⟨rfl, rfl⟩
    have hres : ((Crc.turnF own u p 32).2 == ((n32 (Crc.sum (Crc.turnF own u p 32).1) : Int) == 955982468)) = false := by
      rw [kRes]
      cases hz : (Crc.turnF own u p 32).2 with
      | true => rw [decide_eq_false (Htu.out.1 hz)]; rfl
      | false =>
        have : ¬ Crc.sum (Crc.turnF own u p 32).1 ≠ 0x38FB2284#32 := fun h => by rw [Htu.out.2 h] at hz; cases hz
        rw [decide_eq_true (Classical.not_not.1 this)]; rfl
    by_cases h0 : n = 0
    · subst h0
      go_wp2_with fail
      go_ret
      exact ⟨rfl, Hb3.out⟩
    · obtain ⟨v, hv, hv1⟩ := into_bits a (8 * (n : Int)) (by omega) (by omega)
      have hne2 : (8 * (n : Int)) ≠ 0 := by omega
      have hne3 : ((8 * (n : Int)) == 0) = false := by simp; omega
      have Hh0 := Lib.hid h0; clear h0
      go_wp2_with fail
      refine (turned_calls A n cap _ v p bs w3 Hn.out (by omega) (by omega) Hnil.out hs3 Hr3.out).mono ?_
      rintro e w4 ⟨A4, cap4, rfl, hown4, hb4⟩
      have Ht4 := Lib.hid (Ht3.out.below hb4); have Hr4 := Lib.hid (Hr3.out.below hb4 hs3)
      have Hb4 := Lib.hid (Hb3.out.trans (hb4.mono hs3))
      have Hown4 := Lib.hid hown4
      clear hb4 hown4
      go_wp2_with fail
      refine (csum_calls A n cap _ bs w4 Ht4.out Hn.out (by unfold maxLen; omega) Hr4.out).mono ?_
      rintro e w' ⟨rfl, rfl⟩
      go_wp2_with fail
      refine (csum_calls A4 n cap4 _ _ w4 Ht4.out (by rw [Crc.turnF_length]; exact Hn.out) (by unfold maxLen; omega) (own_rd Hown4.out)).mono ?_
      rintro e w' ⟨rfl, rfl⟩
      have hfin : ((Crc.turnF bs v p 32).2 == ((n32 (Crc.sum bs) : Int) != (n32 (Crc.sum (Crc.turnF bs v p 32).1) : Int))) = true := by
        have htu := Crc.turn_sum bs v p
        rw [n32_bne]
        cases hz : (Crc.turnF bs v p 32).2 with
        | true => rw [decide_eq_false (fun h => (htu.1 hz) h.symm)]; rfl
        | false =>
          have : ¬ Crc.sum bs ≠ Crc.sum (Crc.turnF bs v p 32).1 := fun h => by rw [htu.2 (fun h2 => h h2.symm)] at hz; cases hz
          rw [decide_eq_true (Classical.not_not.1 this)]; rfl
      go_wp2_with fail
      go_ret
      exact ⟨rfl, Hb4.out⟩
  · go_enter Tryd.func10, Tryd.ntmps10
    go_wp2_with fail
    refine H1.out.mono ?_
    rintro e w1 ⟨rfl, hb1⟩
    have Hb1 := Lib.hid hb1; clear hb1
    go_wp2_with fail
    go_ret
    exact ⟨rfl, Hb1.out⟩
theorem walk_burst (A : Option Addr) (n cap : Nat) (bs : List (BitVec 8)) (a p : Int) (w : World) (hb : Arg8 w A n cap bs) (h1 : (Lit.int .i64 a).wf = true) (h2 : (Lit.int .u32 p).wf = true) (ht : TabIn w) :
    Calls Tryd.prog 10 #[.slice A n cap, .int .i64 a, .int .u32 p] w fun e w' => e = .returned (.bool true) ∧ Below w.heap.size w w' := by
  rw [int32 h2]; exact law_burst A n cap bs a _ w hb h1 ht
end Go.Proofs.YtcjedjknelgagaaDoor
