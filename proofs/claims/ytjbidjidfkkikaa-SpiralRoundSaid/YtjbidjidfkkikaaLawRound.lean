/- SpiralRound: the walk -/
import Derived.Test.YtjbidjidfkkikaaSpR
namespace Go.Proofs.Ytjbidjidfkkikaa
open Go.RowKit
set_option linter.unusedSimpArgs false
set_option linter.unusedVariables false
theorem tmod_million (s : Int) : ∃ S, Int.tmod s 1000000 = S ∧ -1000000 < S ∧ S < 1000000 := by
  refine ⟨_, rfl, ?_, ?_⟩
  · have := Int.tmod_lt_of_pos (-s) (show (0 : Int) < 1000000 by decide)
    rw [Int.neg_tmod] at this; omega
  · exact Int.tmod_lt_of_pos s (by decide)
set_option maxHeartbeats 8000000 in
set_option maxRecDepth 20000 in
theorem law_round (i s t : Int) (w : World) (hw : (Lit.int .i64 i).wf = true) (hw2 : (Lit.int .i64 s).wf = true) (hw3 : (Lit.int .i64 t).wf = true) :
    Calls Try.prog 11 #[.int .i64 i, .int .i64 s, .int .i64 t] w fun e w' => e = .returned (.bool true) ∧ Below w.heap.size w w' := by
  clear hw hw2 hw3
  obtain ⟨S, hS, hS1, hS2⟩ := tmod_million s
  obtain ⟨T, hT, hT1, hT2⟩ := tmod_million t
  go_enter Try.func11, Try.ntmps11
  go_wp2_with fail
  refine (first_calls w).mono ?_
  rintro e w1 ⟨rfl, hb1⟩
  have hs1 := hb1.size
  have Hb1 := Lib.hid hb1
  clear hb1
  by_cases hi : i < 0 ∨ 16777216 ≤ i
  · have HS := Lib.hid (Spot_out i hi)
    rcases hi with hi | hi
    · go_wp2_with fail
      refine (HS.out w1).mono ?_
      rintro e w2 ⟨rfl, rfl⟩
      go_wp2_with fail
      go_ret
      exact ⟨rfl, Hb1.out⟩
    · have h2 : ¬ i < 0 := by omega
      go_wp2_with fail
      refine (HS.out w1).mono ?_
      rintro e w2 ⟨rfl, rfl⟩
      go_wp2_with fail
      go_ret
      exact ⟨rfl, Hb1.out⟩
  · obtain ⟨I, rfl⟩ : ∃ I : Nat, i = (I : Int) := ⟨i.toNat, by omega⟩
    have hI : I < 16777216 := by omega
    have HS := Lib.hid (Spot_calls I hI)
    obtain ⟨r, r1, r2, r3, r4⟩ := Sp.spot_le I hI
    have HR := Lib.hid (Ring_spot I r hI r1 r2)
    obtain ⟨u, hu⟩ : ∃ u, u = (Sp.spot I).1 := ⟨_, rfl⟩
    obtain ⟨v, hv⟩ : ∃ v, v = (Sp.spot I).2 := ⟨_, rfl⟩
    rw [← hu, ← hv] at r1 HS HR
    clear hu hv hI hi r3 r4
    have nu := fv_n u (by omega); have nv := fv_n v (by omega); have lu := fv_lt u (by omega); have lv := fv_lt v (by omega)
    have HT1 := Lib.hid (fun w => Turn_n lu nu lv nv (by omega) (by omega) S w (by omega))
    have HT3 := Lib.hid (fun w => Turn_n lu nu lv nv (by omega) (by omega) (S + T) w (by omega))
    have HT4 := Lib.hid (fun w => Turn_n lu nu lv nv (by omega) (by omega) 4 w (by omega))
    have q1 := Sp.tn_le (Sp.times S) u v
    rw [r1] at q1
    have mu := fv_n (Sp.tn (Sp.times S) u v).1 (by omega); have mv := fv_n (Sp.tn (Sp.times S) u v).2 (by omega); have ku := fv_lt (Sp.tn (Sp.times S) u v).1 (by omega); have kv := fv_lt (Sp.tn (Sp.times S) u v).2 (by omega)
    have HT2 := Lib.hid (fun w => Turn_n ku mu kv mv (by omega) (by omega) T w (by omega))
    rw [Sp.tn_tn T S u v] at HT2
    have q3 := Sp.tn_le (Sp.times (S + T)) u v
    rw [r1] at q3
    rw [show Sp.tn (Sp.times 4) u v = (u, v) from rfl] at HT4
    generalize Sp.tn (Sp.times S) u v = p at *
    generalize Sp.tn (Sp.times (S + T)) u v = q at *
    have ou := ordN nu nu; have ov := ordN nv nv
    rw [cmp_eq] at ou ov
    have au := fv_n q.1 (by omega); have av := fv_n q.2 (by omega); have bu := fv_lt q.1 (by omega); have bv := fv_lt q.2 (by omega)
    have HR2 := Lib.hid (Ring_yes _ _ q.1 q.2 au av (by omega) (by omega) bu bv)
    rw [q3] at HR2
    have HI2 := Lib.hid (fun w => Index_ring bu au bv av q3 r2 w)
    have ow := ordN au au; have oz := ordN av av
    rw [cmp_eq] at ow oz
    clear nu nv lu lv mu mv ku kv au av bu bv q1 q3 r1
    generalize fv u = U at *
    generalize fv v = V at *
    generalize fv q.1 = Q1 at *
    generalize fv q.2 = Q2 at *
    generalize fv p.1 = P1 at *
    generalize fv p.2 = P2 at *
    go_wp2_with fail
    refine (HS.out w1).mono ?_
    rintro e w2 ⟨rfl, k2, rfl⟩
    have Hb2 := Lib.hid (below_drewN Hb1.out k2)
    generalize w1.drewN k2 = w2 at *
    go_wp2_with fail
    refine (HT1.out w2).mono ?_
    rintro e w3 ⟨k3, rfl, rfl⟩
    have Hb3 := Lib.hid (below_drewN Hb2.out k3)
    generalize w2.drewN k3 = w3 at *
    go_wp2_with fail
    refine (HT2.out w3).mono ?_
    rintro e w4 ⟨k4, rfl, rfl⟩
    have Hb4 := Lib.hid (below_drewN Hb3.out k4)
    generalize w3.drewN k4 = w4 at *
    go_wp2_with fail
    refine (HT3.out w4).mono ?_
    rintro e w5 ⟨k5, rfl, rfl⟩
    have Hb5 := Lib.hid (below_drewN Hb4.out k5)
    generalize w4.drewN k5 = w5 at *
    go_wp2_with fail
    refine (HT4.out w5).mono ?_
    rintro e w6 ⟨k6, rfl, rfl⟩
    have Hb6 := Lib.hid (below_drewN Hb5.out k6)
    generalize w5.drewN k6 = w6 at *
    go_wp2_with fail
    refine (HR.out w6).mono ?_
    rintro e w7 ⟨rfl, rfl⟩
    go_wp2_with fail
    refine (HR2.out w6).mono ?_
    rintro e w7 ⟨rfl, rfl⟩
    have d3 : decide ((1048576 : Int) < (r : Int)) = false := decide_eq_false (by omega)
    have d4 : decide ((r : Int) < 0) = false := decide_eq_false (by omega)
    go_wp2_with fail
    refine (HI2.out w6).mono ?_
    rintro e w7 ⟨j, b, rfl, rfl, hj⟩
    have Hj := Lib.hid hj
    clear hj
    obtain ⟨Q, hq, hqn⟩ : ∃ Q : Nat, (2 * (r : Int) + 1) * (2 * (r : Int) + 1) = (Q : Int) ∧ (2 * r + 1) * (2 * r + 1) = Q := ⟨_, by push_cast; rfl, rfl⟩
    have qb : (Q : Int) ≤ 20000000 := by have := Nat.mul_le_mul (show 2 * r + 1 ≤ 4097 by omega) (show 2 * r + 1 ≤ 4097 by omega); omega
    rw [hqn] at Hj
    have r2' : (r : Int) ≤ 2048 := by omega
    clear hqn
    by_cases hf : (Q : Int) ≤ 16777216
    · obtain ⟨rfl, hj1, hj2⟩ := Hj.out (by omega)
      have jq : (j : Int) < (Q : Int) := by omega
      have Hj2 := Lib.hid hj2
      clear hj1 hj2 Hj
      by_cases r0 : r = 0
      · have e0 : ((r : Int) == 0) = true := by simp [r0]
        clear r0 r2
        go_wp2_with fail
        go_ret
        exact ⟨rfl, Hb6.out⟩
      · have e0 : ((r : Int) == 0) = false := by simp; exact r0
        obtain ⟨p, hp, hpn⟩ : ∃ p : Nat, (2 * (r : Int) - 1) * (2 * (r : Int) - 1) = (p : Int) ∧ (2 * r - 1) * (2 * r - 1) = p := ⟨_, by
          rw [show 2 * (r : Int) - 1 = ((2 * r - 1 : Nat) : Int) by omega]; push_cast; rfl, rfl⟩
        have pb : (p : Int) ≤ (j : Int) := by have := Hj2.out; omega
        clear r0 hpn r2
        go_wp2_with fail
        go_ret
        exact ⟨rfl, Hb6.out⟩
    · clear Hj r2
      have hf2 : decide ((Q : Int) ≤ 16777216) = false := decide_eq_false hf
      clear hf
      go_wp2_with fail
      go_ret
      exact ⟨rfl, Hb6.out⟩
end Go.Proofs.Ytjbidjidfkkikaa
