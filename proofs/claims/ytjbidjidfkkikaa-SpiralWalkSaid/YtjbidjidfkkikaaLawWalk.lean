/- SpiralWalk: the walk -/
import Derived.Test.YtjbidjidfkkikaaSpP
namespace Go.Proofs.Ytjbidjidfkkikaa
open Go.RowKit
set_option linter.unusedSimpArgs false
set_option linter.unusedVariables false
theorem cmpI (a b : Int) : compare a b = if a < b then Ordering.lt else if a = b then Ordering.eq else Ordering.gt := rfl
set_option maxHeartbeats 8000000 in
set_option maxRecDepth 20000 in
theorem law_walk (i : Int) (w : World) (hw : (Lit.int .i64 i).wf = true) :
    Calls Try.prog 7 #[.int .i64 i] w fun e w' => e = .returned (.bool true) ∧ Below w.heap.size w w' := by
  clear hw
  go_enter Try.func7, Try.ntmps7
  go_wp2_with fail
  refine (first_calls w).mono ?_
  rintro e w1 ⟨rfl, hb1⟩
  have hs1 := hb1.size
  have Hb1 := Lib.hid hb1
  clear hb1
  by_cases hi : i < 0 ∨ 16777215 ≤ i
  · have key : ∃ b : Bool, (i == 16777215) = b ∧ ∀ w, Calls Try.prog 14 #[.int .i64 i] w fun e w' => ∃ (z1 z2 : Nat), e = .returned (.tuple #[.complex .f64 z1 z2, .bool b]) ∧ (∃ k, w' = w.drewN k) := by
      by_cases h : i = 16777215
      · subst h
        refine ⟨true, rfl, fun w => ?_⟩
        refine (Spot_calls 16777215 (by omega) w).mono ?_
        rintro e w' ⟨rfl, hk⟩
        exact ⟨_, _, rfl, hk⟩
      · refine ⟨false, by simpa using h, fun w => ?_⟩
        refine (Spot_out i (by omega) w).mono ?_
        rintro e w' ⟨rfl, rfl⟩
        exact ⟨0, 0, rfl, 0, rfl⟩
    obtain ⟨b, hb, hc⟩ := key
    have Hc := Lib.hid hc
    clear hc
    have hbb : (b == b) = true := by simp
    rcases hi with h1 | h1
    · go_wp2_with fail
      refine (Hc.out w1).mono ?_
      rintro e w2 ⟨z1, z2, rfl, k2, rfl⟩
      have Hb2 := Lib.hid (below_drewN Hb1.out k2)
      generalize w1.drewN k2 = w2 at *
      go_wp2_with fail
      go_ret
      exact ⟨rfl, Hb2.out⟩
    · have h2 : ¬ i < 0 := by omega
      go_wp2_with fail
      refine (Hc.out w1).mono ?_
      rintro e w2 ⟨z1, z2, rfl, k2, rfl⟩
      have Hb2 := Lib.hid (below_drewN Hb1.out k2)
      generalize w1.drewN k2 = w2 at *
      go_wp2_with fail
      go_ret
      exact ⟨rfl, Hb2.out⟩
  · obtain ⟨I, rfl⟩ : ∃ I : Nat, i = (I : Int) := ⟨i.toNat, by omega⟩
    have hI : I < 16777215 := by omega
    obtain ⟨r, r1, r2, r3, r4⟩ := Sp.spot_le I (by omega)
    obtain ⟨r', t1, t2, -, -⟩ := Sp.spot_le (I + 1) (by omega)
    obtain ⟨re, im, hsub, hre, him⟩ := csub (Sp.spot (I + 1)).1 (Sp.spot (I + 1)).2 (Sp.spot I).1 (Sp.spot I).2 (by omega) (by omega) (by omega) (by omega)
    have hd := fun w => run_complex_sum (P := Try.prog) w .sub (Or.inr rfl) 23 .f64 _ _ _ _ re im hsub
    have HS := Lib.hid (Spot_calls I (by omega))
    have HS' := Lib.hid (Spot_calls (I + 1) (by omega))
    have HI := Lib.hid (Index_spot I (by omega))
    have HI' := Lib.hid (Index_spot (I + 1) (by omega))
    have HR := Lib.hid (Ring_spot I r (by omega) r1 r2)
    have hstep := Sp.step I
    rw [show ((I + 1 : Nat) : Int) = (I : Int) + 1 by omega] at HS' HI'
    generalize fv (Sp.spot I).1 = a1 at *
    generalize fv (Sp.spot I).2 = a2 at *
    generalize fv (Sp.spot (I + 1)).1 = b1 at *
    generalize fv (Sp.spot (I + 1)).2 = b2 at *
    generalize (Sp.spot (I + 1)).1 - (Sp.spot I).1 = u at *
    generalize (Sp.spot (I + 1)).2 - (Sp.spot I).2 = v at *
    clear r1 t1 t2 hsub
    have h1 : ¬ (I : Int) < 0 := by omega
    have h2 : ¬ 16777215 ≤ (I : Int) := by omega
    clear hi
    have Hd := Lib.hid hd; have Hst := Lib.hid hstep; have R3 := Lib.hid r3; have R4 := Lib.hid r4; have Hre := Lib.hid hre; have Him := Lib.hid him; have HI0 := Lib.hid hI
    clear hd hstep r3 r4 hre him hI
    replace h1 : decide ((I : Int) < 0) = false := decide_eq_false h1
    replace h2 : decide ((16777215 : Int) ≤ (I : Int)) = false := decide_eq_false h2
    go_wp2_with fail
    refine (HS.out w1).mono ?_
    rintro e w2 ⟨rfl, k2, rfl⟩
    have Hb2 := Lib.hid (below_drewN Hb1.out k2)
    generalize w1.drewN k2 = w2 at *
    have hbd : (I : Int) ≤ 16777216 := by have := HI0.out; omega
    go_wp2_with fail
    refine (HS'.out w2).mono ?_
    rintro e w3 ⟨rfl, k3, rfl⟩
    have Hb3 := Lib.hid (below_drewN Hb2.out k3)
    generalize w2.drewN k3 = w3 at *
    have hd := Hd.out
    go_wp2_with fail
    refine (HI.out w3).mono ?_
    rintro e w4 ⟨rfl, rfl⟩
    go_wp2_with fail
    refine (HI'.out w3).mono ?_
    rintro e w4 ⟨rfl, rfl⟩
    go_wp2_with fail
    refine (HR.out w3).mono ?_
    rintro e w4 ⟨rfl, rfl⟩
    obtain ⟨q, hq, hqn⟩ : ∃ q : Nat, (2 * (r : Int) + 1) * (2 * (r : Int) + 1) = (q : Int) ∧ (2 * r + 1) * (2 * r + 1) = q := ⟨_, by push_cast; rfl, rfl⟩
    have qb : (q : Int) ≤ 20000000 := by have := Nat.mul_le_mul (show 2 * r + 1 ≤ 4097 by omega) (show 2 * r + 1 ≤ 4097 by omega); omega
    have iq : (I : Int) < (q : Int) := by have := R3.out; omega
    have r2' : (r : Int) ≤ 2048 := by omega
    have d3 : decide ((1048576 : Int) < (r : Int)) = false := decide_eq_false (by omega)
    have d4 : decide ((r : Int) < 0) = false := decide_eq_false (by omega)
    clear hqn
    have Hfs : ∃ (u v : Int), Fl.IsN re u ∧ Fl.IsN im v ∧ ((u = 1 ∧ v = 0) ∨ (u = 0 ∧ v = 1) ∨ (u = -1 ∧ v = 0) ∨ (u = 0 ∧ v = -1)) :=
      ⟨u, v, Hre.out, Him.out, by simpa only [Prod.mk.injEq] using Hst.out⟩
    obtain ⟨u, v, hre, him, huv⟩ := Hfs
    have k1 := ordN hre one_n; have k2 := ordN hre zero_n; have k3 := ordN hre neg_n
    have k4 := ordN him one_n; have k5 := ordN him zero_n; have k6 := ordN him neg_n
    clear hre him Hre Him Hst
    rcases huv with ⟨rfl, rfl⟩ | ⟨rfl, rfl⟩ | ⟨rfl, rfl⟩ | ⟨rfl, rfl⟩
    all_goals
      simp [cmpI] at k1 k2 k3 k4 k5 k6
      by_cases r0 : r = 0
      · have e0 : ((r : Int) == 0) = true := by simp [r0]
        clear r0 R4 R3 HI0 hbd r2
        go_wp2_with fail
        go_ret
        exact ⟨rfl, Hb3.out⟩
      · have e0 : ((r : Int) == 0) = false := by simp; exact r0
        obtain ⟨p, hp, hpn⟩ : ∃ p : Nat, (2 * (r : Int) - 1) * (2 * (r : Int) - 1) = (p : Int) ∧ (2 * r - 1) * (2 * r - 1) = p := ⟨_, by
          rw [show 2 * (r : Int) - 1 = ((2 * r - 1 : Nat) : Int) by omega]; push_cast; rfl, rfl⟩
        have pb : (p : Int) ≤ (I : Int) := by have := R4.out; omega
        clear r0 R4 R3 HI0 hbd r2 hpn
        go_wp2_with fail
        go_ret
        exact ⟨rfl, Hb3.out⟩
end Go.Proofs.Ytjbidjidfkkikaa
