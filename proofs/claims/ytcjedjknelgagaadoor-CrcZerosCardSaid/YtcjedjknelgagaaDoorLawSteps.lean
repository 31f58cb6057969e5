/- pithlaw2.CrcSteps, CrcParts: the walks -/
import Derived.Test.YtcjedjknelgagaaDoorLawParts
namespace Go.Proofs.YtcjedjknelgagaaDoor
open Go.RowKit Go.ChangeShapes Go.WideShapes Go.ChangeAt
set_option linter.unusedSimpArgs false
set_option linter.unusedVariables false
attribute [local go_sem ↓] n32_shl n32_shr
attribute [local go_sem] u32_signed n32_xor n32_xPl
theorem lit0 : (0 : Int) = (n32 0#32 : Int) := rfl
theorem top_bit (y : BitVec 32) : ((n32 (y >>> 31) : Int) == 1) = y.msb := by
  have h : n32 (y >>> 31) = if y.msb then 1 else 0 := by
    unfold n32
    rw [BitVec.toNat_ushiftRight, Nat.shiftRight_eq_div_pow]
    have := y.isLt
    by_cases hm : y.msb = true
    · rw [if_pos hm]; have := BitVec.msb_eq_true_iff_two_mul_ge.1 hm; omega
    · rw [if_neg hm]; have := BitVec.msb_eq_false_iff_two_mul_lt.1 (by simpa using hm); omega
  rw [h]; cases y.msb <;> rfl
theorem join_zero (a : BitVec 32) (n : Int) : Crc.join a 0#32 n = Crc.steps (8 * n.toNat) a := by unfold Crc.join; simp

set_option maxHeartbeats 2000000 in
theorem law_steps (a b : BitVec 32) (n : Int) (w : World) (hn : -9223372036854775808 ≤ n ∧ n ≤ 9223372036854775807) (ht : TabIn w) :
    Calls Tryd.prog 8 #[.int .u32 (n32 a), .int .u32 (n32 b), .int .i64 n] w fun e w' => e = .returned (.bool true) ∧ Below w.heap.size w w' := by
  have H1 := Lib.hid (first_calls w ht)
  clear ht
  by_cases hbig : n > 1152921504606846976
  · have h1 : decide (1152921504606846976 < n) = true := by rw [decide_eq_true_eq]; omega
    clear hbig hn
    go_enter Tryd.func8, Tryd.ntmps8
    go_wp2_with fail
    refine H1.out.mono ?_
    rintro e w1 ⟨rfl, hb1⟩
    have Hb1 := Lib.hid hb1; clear hb1
    go_wp2_with fail
    go_ret
    exact ⟨rfl, Hb1.out⟩
  · have h1 : decide (1152921504606846976 < n) = false := by rw [decide_eq_false_iff_not]; omega
    have Hbig := Lib.hid hbig; clear hbig
    have Hn := Lib.hid hn; clear hn
    by_cases hle : n ≤ 0
    · have h2 : decide (n ≤ 0) = true := by rw [decide_eq_true_eq]; exact hle
      have Hj := Lib.hid (show Crc.join a 0#32 n = a by rw [join_zero, show n.toNat = 0 by omega]; rfl)
      have Hjb := Lib.hid (show Crc.join a b n = a ^^^ b by unfold Crc.join; rw [show n.toNat = 0 by omega]; rfl)
      clear hle
      go_enter Tryd.func8, Tryd.ntmps8
      go_wp2_with fail
      refine H1.out.mono ?_
      rintro e w1 ⟨rfl, hb1⟩
      have Hb1 := Lib.hid hb1; clear hb1
      go_wp2_with fail
      refine (joi_calls a 0#32 _ _ n rfl lit0 _ Hn.out).mono ?_
      rintro e w2 ⟨rfl, hb2⟩
      have Hb2 := Lib.hid (Hb1.out.trans (hb2.mono Hb1.out.size)); clear hb2
      rw [Hj.out]
      go_wp2_with fail
      refine (joi_calls a b _ _ n rfl rfl _ Hn.out).mono ?_
      rintro e w3 ⟨rfl, hb3⟩
      have Hb3 := Lib.hid (Hb2.out.trans (hb3.mono Hb2.out.size)); clear hb3
      rw [Hjb.out]
      go_wp2_with fail
      go_ret
      exact ⟨rfl, Hb3.out⟩
    · have h2 : decide (n ≤ 0) = false := by rw [decide_eq_false_iff_not]; exact hle
      have Hle := Lib.hid hle; clear hle
      have hw : IntKind.i64.wrap (n - 1) = n - 1 := IntWalk.i64_in _ (by have := Hn.out; have := Hle.out; omega)
      have Hnm := Lib.hid (show -9223372036854775808 ≤ n - 1 ∧ n - 1 ≤ 9223372036854775807 by have := Hn.out; have := Hle.out; omega)
      have Hx := Lib.hid (show Crc.join a 0#32 n = Crc.steps 8 (Crc.join a 0#32 (n - 1)) by
        rw [join_zero, join_zero, ← Crc.steps_add]; congr 1; have := Hle.out; omega)
      have Hjb := Lib.hid (show Crc.join a b n = Crc.steps 8 (Crc.join a 0#32 (n - 1)) ^^^ b by rw [← Hx.out, join_zero]; rfl)
      go_enter Tryd.func8, Tryd.ntmps8
      go_wp2_with fail
      refine H1.out.mono ?_
      rintro e w1 ⟨rfl, hb1⟩
      have Hb1 := Lib.hid hb1; clear hb1
      go_wp2_with fail
      refine (joi_calls a 0#32 _ _ n rfl lit0 _ Hn.out).mono ?_
      rintro e w2 ⟨rfl, hb2⟩
      have Hb2 := Lib.hid (Hb1.out.trans (hb2.mono Hb1.out.size)); clear hb2
      go_wp2_with fail
      refine (joi_calls a 0#32 _ _ (n - 1) rfl lit0 _ Hnm.out).mono ?_
      rintro e w3 ⟨rfl, hb3⟩
      have Hb3 := Lib.hid (Hb2.out.trans (hb3.mono Hb2.out.size)); clear hb3
      rw [Hx.out]
      generalize Crc.join a 0#32 (n - 1) = y0 at Hjb ⊢
      go_wp2_with fail
      go_loop [9, 10] (fun y k => ∃ j : Nat, j ≤ 8 ∧ k = .int .i64 j ∧ y = .int .u32 (n32 (Crc.steps j y0))) (fun _ k => 8 - (intOf k).toNat)
      case atStart => exact ⟨0, by omega, rfl, rfl⟩
      case round =>
        obtain ⟨j, hj, rfl, rfl⟩ := hrel
        by_cases hlt : j < 8
        · have hlt' : (j : Int) < 8 := by omega
          have htop := top_bit (Crc.steps j y0)
          have Hs := Lib.hid (Crc.steps_succ' j y0)
          generalize Crc.steps j y0 = y at *
          by_cases hm : y.msb = true
          · rw [hm] at htop
            have Hstep := Lib.hid (show Crc.step y = y <<< 1 ^^^ Crc.Pl by unfold Crc.step; rw [if_pos hm])
            clear hm
            go_wp2_with fail
            go_round
            case rel => exact ⟨j + 1, by omega, by go_num, by rw [Hs.out, Hstep.out]⟩
            case measure => simp [intOf]; omega
          · rw [show y.msb = false by simpa using hm] at htop
            have Hstep := Lib.hid (show Crc.step y = y <<< 1 by unfold Crc.step; rw [if_neg hm])
            clear hm
            go_wp2_with fail
            go_round
            case rel => exact ⟨j + 1, by omega, by go_num, by rw [Hs.out, Hstep.out]⟩
            case measure => simp [intOf]; omega
        · obtain rfl : j = 8 := by omega
          go_wp2_with fail
          refine (joi_calls a b _ _ n rfl rfl _ Hn.out).mono ?_
          rintro e w4 ⟨rfl, hb4⟩
          have Hb4 := Lib.hid (Hb3.out.trans (hb4.mono Hb3.out.size)); clear hb4
          rw [Hjb.out]
          go_wp2_with fail
          go_ret
          exact ⟨rfl, Hb4.out⟩

theorem walk_steps (a b n : Int) (w : World) (h0 : (Lit.int .u32 a).wf = true) (h1 : (Lit.int .u32 b).wf = true) (h2 : (Lit.int .i64 n).wf = true) (ht : TabIn w) :
    Calls Tryd.prog 8 #[.int .u32 a, .int .u32 b, .int .i64 n] w fun e w' => e = .returned (.bool true) ∧ Below w.heap.size w w' := by
  rw [int32 h0, int32 h1]
  exact law_steps _ _ n w (bounds_i64 h2) ht

set_option maxHeartbeats 2000000 in
theorem law_parts (A1 A2 A3 : Option Addr) (n1 n2 n3 c1 c2 c3 : Nat) (la lb lc : List (BitVec 8)) (x : BitVec 32) (w : World) (ha : Arg8 w A1 n1 c1 la) (hb : Arg8 w A2 n2 c2 lb) (hc : Arg8 w A3 n3 c3 lc) (ht : TabIn w) :
    Calls Tryd.prog 6 #[.slice A1 n1 c1, .slice A2 n2 c2, .slice A3 n3 c3, .int .u32 (n32 x)] w fun e w' => e = .returned (.bool true) ∧ Below w.heap.size w w' := by
  obtain ⟨i0, hi, hz0, hz1, hz2⟩ := info_parts infoU8
  have Hi := Lib.hid hi; clear hi
  obtain ⟨han, ham, _, hanil, har⟩ := ha
  obtain ⟨hbn, hbm, _, hbnil, hbr⟩ := hb
  obtain ⟨hcn, hcm, _, hcnil, hcr⟩ := hc
  unfold maxLen at ham hbm hcm
  have H1 := Lib.hid (first_calls w ht)
  have Ht := Lib.hid ht; have Har := Lib.hid har; have Han := Lib.hid han; have Hanil := Lib.hid hanil
  have Hbr := Lib.hid hbr; have Hbn := Lib.hid hbn; have Hbnil := Lib.hid hbnil
  have Hcr := Lib.hid hcr; have Hcn := Lib.hid hcn; have Hcnil := Lib.hid hcnil
  clear ht har han hanil hbr hbn hbnil hcr hcn hcnil
  by_cases hbig : n1 ≤ 65536 ∧ n2 ≤ 65536 ∧ n3 ≤ 65536
  · obtain ⟨hb1, hb2, hb3⟩ := hbig
    go_enter Tryd.func6, Tryd.ntmps6
    go_wp2_with fail
    refine H1.out.mono ?_
    rintro e w1 ⟨rfl, hb1⟩
    have Ht1 := Lib.hid (Ht.out.below hb1)
    have Hb1 := Lib.hid hb1; have hs1 := hb1.size; clear hb1
    go_wp2_with fail
    refine (bytes_calls A1 n1 c1 _ la w1 Han.out (by omega) Hanil.out hs1 (Har.out.below Hb1.out (Nat.le_refl _))).mono ?_
    rintro e w2 ⟨A4, c4, rfl, hown2, hbb⟩
    have Hbb2 := Lib.hid hbb; have hs2 := hbb.size
    have Hb2 := Lib.hid (Hb1.out.trans (hbb.mono hs1)); clear hbb
    have Hown2 := Lib.hid hown2; clear hown2
    go_wp2_with (at_builtin; refine wpList_append_rd rfl _ _ 22 rfl w1.heap.size 5 i0 _ 1 descU8s Hi.out hz0 hz1 hz2 rfl _ n1 (la.map V8) rfl Hown2.out w.heap.size A2 n2 c2 (lb.map V8) rfl ?d1 Hbnil.out ?d2 (v8_one lb) ?d3 ?d4 hs2 ?_)
    case d1 => rw [List.length_map]; exact Hbn.out
    case d2 => exact Hbr.out.below Hb2.out (Nat.le_refl _)
    case d3 => unfold maxLen; omega
    case d4 => omega
    intro v3 w3 hown3 hg3
    obtain ⟨A5, c5, rfl, hc5, _, _⟩ := own_form hown3
    rw [← List.map_append] at hown3
    have Hb3 := Lib.hid (below_own Hb2.out Hown2.out hg3 hs1 hs2)
    have hs3 := hg3.size
    have Hown3 := Lib.hid hown3; clear hown3 hg3
    have Ht3 := Lib.hid (Ht.out.below Hb3.out)
    have Hl12 := Lib.hid (show n1 + n2 = (la ++ lb).length by rw [List.length_append, ← Han.out, ← Hbn.out])
    have hs3' : w.heap.size ≤ w3.heap.size := Hb3.out.size
    go_wp2_with fail
    refine (bytes_calls A5 (n1 + n2) c5 _ (la ++ lb) w3 Hl12.out (by omega) (own_nil Hown3.out) (Nat.le_refl _) (own_rd Hown3.out)).mono ?_
    rintro e w4 ⟨A6, c6, rfl, hown4, hbb⟩
    have hs4 := hbb.size
    have Hbb4 := Lib.hid hbb
    have Hb4 := Lib.hid (Hb3.out.trans (hbb.mono hs3')); clear hbb
    have Hown4 := Lib.hid hown4; clear hown4
    go_wp2_with (at_builtin; refine wpList_append_rd rfl _ _ 22 rfl w3.heap.size 5 i0 _ 1 descU8s Hi.out hz0 hz1 hz2 rfl _ (n1 + n2) ((la ++ lb).map V8) rfl Hown4.out w.heap.size A3 n3 c3 (lc.map V8) rfl ?d1 Hcnil.out ?d2 (v8_one lc) ?d3 ?d4 hs4 ?_)
    case d1 => rw [List.length_map]; exact Hcn.out
    case d2 => exact Hcr.out.below Hb4.out (Nat.le_refl _)
    case d3 => unfold maxLen; omega
    case d4 => omega
    intro v5 w5 hown5 hg5
    obtain ⟨A7, c7, rfl, hc7, _, _⟩ := own_form hown5
    rw [show la.map V8 ++ (lb.map V8 ++ lc.map V8) = (la ++ lb ++ lc).map V8 by simp] at hown5
    have Hb5 := Lib.hid (below_own Hb4.out Hown4.out hg5 hs3' hs4)
    have Hr35 := Lib.hid (Hbb4.out.trans (grown_below Hown4.out hg5 hs4))
    have hs5 := hg5.size
    have hs35 : w3.heap.size ≤ w5.heap.size := by omega
    have hs5' : w.heap.size ≤ w5.heap.size := by omega
    have Hown5 := Lib.hid hown5; clear hown5 hg5
    have Hl123 := Lib.hid (show n1 + n2 + n3 = (la ++ lb ++ lc).length by rw [List.length_append, ← Hl12.out, ← Hcn.out])
    have Ht5 := Lib.hid (Ht.out.below Hb5.out)
    have Ra := Lib.hid (Har.out.below Hb5.out (Nat.le_refl _)); have Rb := Lib.hid (Hbr.out.below Hb5.out (Nat.le_refl _)); have Rc := Lib.hid (Hcr.out.below Hb5.out (Nat.le_refl _))
    have Rab := Lib.hid ((own_rd Hown3.out).below Hr35.out (Nat.le_refl _)); have Rall := Lib.hid (own_rd Hown5.out)
    clear Hr35 Hbb4 Hbb2 Hown3 Hown4 Hown5 Hown2 Hb1 Hb2 Hb3 Hb4 Ht1 Ht3
    have E1 := Lib.hid (show Crc.update (Crc.sum la) lb = Crc.sum (la ++ lb) from (Crc.update_append 0 la lb).symm)
    have E2 := Lib.hid (show Crc.update (Crc.sum (la ++ lb)) lc = Crc.sum (la ++ lb ++ lc) from (Crc.update_append 0 (la ++ lb) lc).symm)
    have E3 := Lib.hid (show Crc.join (Crc.sum la) (Crc.sum lb) (n2 : Int) = Crc.sum (la ++ lb) by rw [← Crc.join_sum, ← Hbn.out]; rfl)
    have E4 := Lib.hid (show Crc.join (Crc.sum (la ++ lb)) (Crc.sum lc) (n3 : Int) = Crc.sum (la ++ lb ++ lc) by rw [← Crc.join_sum (la ++ lb), ← Hcn.out]; rfl)
    have E5 := Lib.hid (Crc.update_append x la lb)
    have E6 := Lib.hid (Crc.update_nil x)
    go_wp2_with fail
    refine (csum_calls _ _ _ _ la w5 Ht5.out Han.out (by unfold maxLen; omega) Ra.out).mono ?_
    rintro e w' ⟨rfl, rfl⟩
    go_wp2_with fail
    refine (upd_calls _ _ rfl _ _ _ _ lb w5 Ht5.out Hbn.out (by unfold maxLen; omega) Rb.out).mono ?_
    rintro e w' ⟨rfl, rfl⟩
    rw [E1.out]
    go_wp2_with fail
    refine (upd_calls _ _ rfl _ _ _ _ lc w5 Ht5.out Hcn.out (by unfold maxLen; omega) Rc.out).mono ?_
    rintro e w' ⟨rfl, rfl⟩
    rw [E2.out]
    go_wp2_with fail
    refine (csum_calls _ _ _ _ lb w5 Ht5.out Hbn.out (by unfold maxLen; omega) Rb.out).mono ?_
    rintro e w' ⟨rfl, rfl⟩
    go_wp2_with fail
    refine (joi_calls _ _ _ _ (n2 : Int) rfl rfl w5 (by omega)).mono ?_
    rintro e w6 ⟨rfl, hb6⟩
    have Ht6 := Lib.hid (Ht5.out.below hb6); have Rc6 := Lib.hid (Rc.out.below hb6 hs5'); have hs6 := hb6.size
    have Hb56 := Lib.hid hb6; clear hb6
    rw [E3.out]
    go_wp2_with fail
    refine (csum_calls _ _ _ _ lc w6 Ht6.out Hcn.out (by unfold maxLen; omega) Rc6.out).mono ?_
    rintro e w' ⟨rfl, rfl⟩
    go_wp2_with fail
    refine (joi_calls _ _ _ _ (n3 : Int) rfl rfl w6 (by omega)).mono ?_
    rintro e w7 ⟨rfl, hb7⟩
    have Hb57 := Lib.hid (Hb56.out.trans (hb7.mono hs6)); clear hb7
    have Ht7 := Lib.hid (Ht5.out.below Hb57.out)
    have Ra7 := Lib.hid (Ra.out.below Hb57.out hs5'); have Rb7 := Lib.hid (Rb.out.below Hb57.out hs5'); have Rc7 := Lib.hid (Rc.out.below Hb57.out hs5')
    have Rab7 := Lib.hid (Rab.out.below Hb57.out hs35); have Rall7 := Lib.hid (Rall.out.below Hb57.out (Nat.le_refl _))
    rw [E4.out]
    go_wp2_with fail
    refine (upd_calls x _ rfl _ _ _ _ (la ++ lb) w7 Ht7.out Hl12.out (by unfold maxLen; omega) Rab7.out).mono ?_
    rintro e w' ⟨rfl, rfl⟩
    go_wp2_with fail
    refine (upd_calls x _ rfl _ _ _ _ la w7 Ht7.out Han.out (by unfold maxLen; omega) Ra7.out).mono ?_
    rintro e w' ⟨rfl, rfl⟩
    go_wp2_with fail
    refine (upd_calls _ _ rfl _ _ _ _ lb w7 Ht7.out Hbn.out (by unfold maxLen; omega) Rb7.out).mono ?_
    rintro e w' ⟨rfl, rfl⟩
    rw [← E5.out]
    go_wp2_with fail
    refine (csum_calls _ _ _ _ (la ++ lb) w7 Ht7.out Hl12.out (by unfold maxLen; omega) Rab7.out).mono ?_
    rintro e w' ⟨rfl, rfl⟩
    go_wp2_with fail
    refine (csum_calls _ _ _ _ (la ++ lb ++ lc) w7 Ht7.out Hl123.out (by unfold maxLen; omega) Rall7.out).mono ?_
    rintro e w' ⟨rfl, rfl⟩
    go_wp2_with fail
    refine (upd_calls 0#32 _ rfl _ _ _ _ lc w7 Ht7.out Hcn.out (by unfold maxLen; omega) Rc7.out).mono ?_
    rintro e w' ⟨rfl, rfl⟩
    rw [show Crc.update 0#32 lc = Crc.sum lc from rfl]
    go_wp2_with fail
    refine (csum_calls _ _ _ _ lc w7 Ht7.out Hcn.out (by unfold maxLen; omega) Rc7.out).mono ?_
    rintro e w' ⟨rfl, rfl⟩
    go_wp2_with fail
    refine (upd_calls x _ rfl _ 0 _ 0 [] w7 Ht7.out rfl (by unfold maxLen; omega) (Rd.nil _ _ _)).mono ?_
    rintro e w' ⟨rfl, rfl⟩
    rw [E6.out]
    go_wp2_with fail
    go_ret
    exact ⟨rfl, Hb5.out.trans (Hb57.out.mono hs5')⟩
  · have hd : (decide (65536 < (n1 : Int)) = true) ∨ (decide (65536 < (n1 : Int)) = false ∧ decide (65536 < (n2 : Int)) = true) ∨ (decide (65536 < (n1 : Int)) = false ∧ decide (65536 < (n2 : Int)) = false ∧ decide (65536 < (n3 : Int)) = true) := by
      simp only [decide_eq_true_eq, decide_eq_false_iff_not]; omega
    clear hbig
    rcases hd with h1 | ⟨h1, h2⟩ | ⟨h1, h2, h3⟩
    all_goals
      go_enter Tryd.func6, Tryd.ntmps6
      go_wp2_with fail
      refine H1.out.mono ?_
      rintro e w1 ⟨rfl, hb1⟩
      have Hb1 := Lib.hid hb1; clear hb1
      go_wp2_with fail
      go_ret
      exact ⟨rfl, Hb1.out⟩
theorem walk_parts (A1 : Option Addr) (n1 c1 : Nat) (la : List (BitVec 8)) (A2 : Option Addr) (n2 c2 : Nat) (lb : List (BitVec 8)) (A3 : Option Addr) (n3 c3 : Nat) (lc : List (BitVec 8)) (x : Int) (w : World)
    (ha : Arg8 w A1 n1 c1 la) (hb : Arg8 w A2 n2 c2 lb) (hc : Arg8 w A3 n3 c3 lc) (h3 : (Lit.int .u32 x).wf = true) (ht : TabIn w) :
    Calls Tryd.prog 6 #[.slice A1 n1 c1, .slice A2 n2 c2, .slice A3 n3 c3, .int .u32 x] w fun e w' => e = .returned (.bool true) ∧ Below w.heap.size w w' := by
  rw [int32 h3]
  exact law_parts A1 A2 A3 n1 n2 n3 c1 c2 c3 la lb lc _ w ha hb hc ht
end Go.Proofs.YtcjedjknelgagaaDoor
