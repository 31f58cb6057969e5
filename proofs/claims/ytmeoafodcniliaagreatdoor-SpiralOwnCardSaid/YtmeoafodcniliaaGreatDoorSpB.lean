/- spiral.place, Spot -/
import Derived.Test.YtmeoafodcniliaaGreatDoorSpA
namespace Go.Proofs.YtmeoafodcniliaaGreatDoor.C24
open Go.RowKit
set_option linter.unusedSimpArgs false
set_option linter.unusedVariables false
set_option exponentiation.threshold 2000
/-- The bits of a whole number. -/
abbrev fv (v : Int) : Nat := floatOfInt .f64 v
theorem fv_n (v : Int) (h : v.natAbs < 2 ^ 53) : Fl.IsN (fv v) v := (Fl.IsI.ofInt v h).1.n h
theorem fv_zero : fv 0 = 0 := rfl
theorem one_n : Fl.IsN 4607182418800017408 1 := ⟨false, 52, by decide, by decide, by decide⟩
theorem zero_n : Fl.IsN 0 0 := ⟨false, 1074, by rw [Int.natAbs_zero, Nat.zero_mul]; decide, by decide, by decide⟩
theorem canon {r : Nat} {v : Int} (h : Fl.IsI r v) (h0 : v = 0 → r = 0) (hv : v.natAbs < 2 ^ 53) : r = fv v := by
  by_cases hz : v = 0
  · rw [h0 hz, hz]; rfl
  · obtain ⟨s, h⟩ := h
    obtain ⟨⟨t, h2⟩, _⟩ := Fl.IsI.ofInt v hv
    rw [if_neg hz] at h h2
    rw [h, ← h2]
theorem add_zero {x : Nat} {v : Int} (h : Fl.IsN x v) (hv : v.natAbs < 2 ^ 53) : Ieee.double.add x 0 = some (fv v) := by
  obtain ⟨r, h1, h2, h3⟩ := h.add zero_n (by rw [Int.add_zero]; exact hv)
  rw [h1, canon (v := v) (by rw [Int.add_zero] at h2; exact h2) (fun h => h3 (by rw [h]; rfl) (Or.inr rfl)) hv]
theorem mul_i {p q : Nat} {u v : Int} (hp : Fl.IsN p u) (hq : Fl.IsN q v) (hu : u.natAbs < 2 ^ 53) (hv : v.natAbs < 2 ^ 53) : ∃ re im, cMulBits p q 0 4607182418800017408 = some (re, im) ∧ Fl.IsN re (-v) ∧ Fl.IsN im u := by
  obtain ⟨ac, e1, n1⟩ := hp.mul zero_n (by rw [Int.mul_zero]; decide)
  obtain ⟨bd, e2, n2⟩ := hq.mul one_n (by rw [Int.mul_one]; exact hv)
  obtain ⟨re, e3, n3⟩ := (n1.n (by rw [Int.mul_zero]; decide)).sub (n2.n (by rw [Int.mul_one]; exact hv)) (by rw [Int.mul_zero, Int.mul_one]; omega)
  obtain ⟨ad, e4, n4⟩ := hp.mul one_n (by rw [Int.mul_one]; exact hu)
  obtain ⟨bc, e5, n5⟩ := hq.mul zero_n (by rw [Int.mul_zero]; decide)
  obtain ⟨im, e6, n6, _⟩ := (n4.n (by rw [Int.mul_one]; exact hu)).add (n5.n (by rw [Int.mul_zero]; decide)) (by rw [Int.mul_zero, Int.mul_one]; omega)
  refine ⟨re, im, ?_, ?_, ?_⟩
  · unfold cMulBits floatBits
    show ((Ieee.double.mul p 0).bind fun ac => (Ieee.double.mul q 4607182418800017408).bind fun bd => (Ieee.double.sub ac bd).bind fun re => (Ieee.double.mul p 4607182418800017408).bind fun ad => (Ieee.double.mul q 0).bind fun bc => (Ieee.double.add ad bc).bind fun im => some (re, im)) = _
    rw [e1]; simp only [Option.bind_some]; rw [e2]; simp only [Option.bind_some]; rw [e3]; simp only [Option.bind_some]; rw [e4]; simp only [Option.bind_some]; rw [e5]; simp only [Option.bind_some]; rw [e6]; rfl
  · have := n3.n (by rw [Int.mul_zero, Int.mul_one]; omega)
    rwa [Int.mul_zero, Int.mul_one, Int.zero_sub] at this
  · have := n6.n (by rw [Int.mul_zero, Int.mul_one]; omega)
    rwa [Int.mul_zero, Int.mul_one, Int.add_zero] at this
theorem place_calls (x y a b : Nat) (h1 : Ieee.double.add x 0 = some a) (h2 : Ieee.double.add y 0 = some b) (w : World) : Calls Tryz.prog 181 #[.float .f64 x, .float .f64 y] w fun e w' => e = .returned (.complex .f64 a b) ∧ w = w' := by
  have g1 := fun w => run_float_arith (P := Tryz.prog) w .add 174 .f64 x 0 a h1
  have g2 := fun w => run_float_arith (P := Tryz.prog) w .add 174 .f64 y 0 b h2
  clear h1 h2
  go_enter Tryz.func181, Tryz.ntmps181
  go_wp2_with fail
  go_ret
  exact ⟨rfl, rfl⟩
theorem tn_succ (k : Nat) (x y : Int) (h : k < 3) : Sp.tn (k + 1) x y = (-(Sp.tn k x y).2, (Sp.tn k x y).1) := by
  rcases (by omega : k = 0 ∨ k = 1 ∨ k = 2) with rfl | rfl | rfl <;> simp [Sp.tn]
theorem tn_small (k : Nat) (x y : Int) (B : Nat) (hx : x.natAbs < B) (hy : y.natAbs < B) : (Sp.tn k x y).1.natAbs < B ∧ (Sp.tn k x y).2.natAbs < B := by
  unfold Sp.tn; split <;> simp only <;> omega
set_option maxHeartbeats 2000000 in
theorem Spot_calls (i : Nat) (hi : i < 16777216) (w : World) : Calls Tryz.prog 94 #[.int .i64 (i : Int)] w fun e w' => e = .returned (.tuple #[.complex .f64 (fv (Sp.spot i).1) (fv (Sp.spot i).2), .bool true]) ∧ ∃ k, w' = w.drewN k := by
  go_enter Tryz.func94, Tryz.ntmps94
  rcases Nat.eq_zero_or_pos i with hi0 | hi0
  · subst hi0
    go_wp2_with fail
    go_ret2
    exact ⟨rfl, 0, rfl⟩
  · have h1 : ((i : Int) == 0) = false := by rw [beq_eq_false_iff_ne]; omega
    have h2 : ¬ (16777216 : Int) ≤ (i : Int) := by omega
    obtain ⟨r, side, al, hr, hs, ha, hii, er, es, ea⟩ := Sp.spot_parts (i := i) (by omega)
    have Hsp := Lib.hid (Sp.spot_eq hr hs ha hii)
    have Her := Lib.hid er
    have hrb : r ≤ 2049 := by
      rcases Nat.lt_or_ge r 2050 with h | h
      · omega
      · have := Nat.mul_le_mul (show 4099 ≤ 2 * r - 1 by omega) (show 4099 ≤ 2 * r - 1 by omega); omega
    have hm : (((Sp.isq i : Nat) : Int) + 1) / 2 = (r : Int) := by rw [er]; unfold Sp.ring; omega
    have hisq : Sp.isq i ≤ 4098 := by have := er; unfold Sp.ring at this; omega
    have Hii := Lib.hid hii
    obtain ⟨R, hR⟩ : ∃ R : Nat, R = 2 * r := ⟨_, rfl⟩
    obtain ⟨O, hO, hO2⟩ : ∃ O : Nat, ((R : Int) - 1) * ((R : Int) - 1) = (O : Int) ∧ (2 * r - 1) * (2 * r - 1) = O := ⟨(2 * r - 1) * (2 * r - 1), by rw [show (R : Int) - 1 = ((2 * r - 1 : Nat) : Int) by omega]; push_cast; rfl, rfl⟩
    obtain ⟨A, hA⟩ : ∃ A : Nat, A = R * side + al := ⟨_, rfl⟩
    rw [hO2, ← hR, Nat.add_assoc, ← hA] at hii
    have hOb : O ≤ 16777216 := by omega
    have hAi : (i : Int) - (O : Int) = (A : Int) := by omega
    have hR1 : 2 * (r : Int) = (R : Int) := by omega
    have hd : (A : Int) / (R : Int) = (side : Int) := by
      have : A / R = side := by rw [hA, Nat.add_comm, Nat.add_mul_div_left _ _ (by omega), Nat.div_eq_of_lt (by omega), Nat.zero_add]
      rw [← this]; rfl
    have hmo : (A : Int) % (R : Int) = (al : Int) := by
      have : A % R = al := by rw [hA, Nat.add_comm, Nat.add_mul_mod_self_left, Nat.mod_eq_of_lt (by omega)]
      rw [← this]; rfl
    have q2 : ((R : Int) = 0) = False := by simp; omega
    have q3 : (A : Int).tdiv (R : Int) = (side : Int) := by rw [Int.tdiv_eq_ediv_of_nonneg (by omega)]; exact hd
    have q4 : (A : Int).tmod (R : Int) = (al : Int) := by rw [Int.tmod_eq_emod_of_nonneg (by omega)]; exact hmo
    have hRb : R ≤ 4098 := by omega
    clear er es ea hii hO2 hA hR
    go_wp2_with fail
    refine (root_calls i (by omega) w).mono ?_
    rintro e w' ⟨rfl, rfl⟩
    generalize Sp.isq i = rho at *
    go_wp2_with fail
    go_big_quiet (fail)
    go_wp2_with fail
    obtain ⟨y0, hy0⟩ : ∃ y0 : Int, (al : Int) + 1 - (r : Int) = y0 := ⟨_, rfl⟩
    have hyb : y0.natAbs < 2050 := by omega
    have hrb2 : ((r : Int)).natAbs < 2050 := by omega
    refine (place_calls _ _ _ _ (add_zero (fv_n (r : Int) (by omega)) (by omega)) (add_zero (fv_n ((al : Int) + 1 - (r : Int)) (by omega)) (by omega)) (w.drewN nq)).mono ?_
    rintro e w' ⟨rfl, rfl⟩
    rw [hy0] at Hsp
    rw [hy0]
    have Hn1 := Lib.hid (fv_n (r : Int) (by omega)); have Hn2 := Lib.hid (fv_n y0 (by omega))
    clear hO hAi hd hmo q3 q4 hm hR1 q2 hy0
    generalize (r : Int) = x0 at *
    generalize fv x0 = bx at *
    generalize fv y0 = bY at *
    go_wp2_with fail
    go_loopw [8, 47] (fun z k wr => ∃ (a p q : Nat), k = .int .i64 (a : Int) ∧ a ≤ side ∧ z = .complex .f64 p q ∧ Fl.IsN p (Sp.tn a x0 y0).1 ∧ Fl.IsN q (Sp.tn a x0 y0).2 ∧ w.drewN nq = wr) (fun _ k _ => side - (intOf k).toNat)
    case atStart => exact ⟨0, _, _, rfl, by omega, rfl, Hn1.out, Hn2.out, rfl⟩
    case round =>
      obtain ⟨a, p, q, rfl, ha2, rfl, hp, hq, rfl⟩ := hrel
      have hsm := tn_small a x0 y0 2050 hrb2 hyb
      by_cases hlt : a < side
      · have l1 : (a : Int) < (side : Int) := by omega
        obtain ⟨re, im, hmul, hre, him⟩ := mul_i hp hq (by omega) (by omega)
        have g := fun w => run_complex_mul (P := Tryz.prog) w 116 p q 0 4607182418800017408 re im hmul
        have Hre := Lib.hid hre; have Him := Lib.hid him
        have Ht := Lib.hid (tn_succ a x0 y0 (by omega))
        clear hp hq hmul hre him hsm
        go_wp2_with fail
        exact ⟨⟨a + 1, re, im, by congr 1, by omega, rfl, by rw [Ht.out]; exact Hre.out, by rw [Ht.out]; exact Him.out, trivial⟩, by simp [intOf]; omega⟩
      · obtain rfl : a = side := by omega
        rw [← Hsp.out] at hp hq hsm
        have Hp := Lib.hid hp; have Hq := Lib.hid hq
        clear hp hq
        go_wp2_with fail
        refine (place_calls _ _ _ _ (add_zero Hp.out (by omega)) (add_zero Hq.out (by omega)) (w.drewN nq)).mono ?_
        rintro e w' ⟨rfl, rfl⟩
        go_wp2_with fail
        go_ret2
        exact ⟨rfl, nq, rfl⟩
theorem Spot_out (i : Int) (hi : i < 0 ∨ 16777216 ≤ i) (w : World) : Calls Tryz.prog 94 #[.int .i64 i] w fun e w' => e = .returned (.tuple #[.complex .f64 0 0, .bool false]) ∧ w = w' := by
  go_enter Tryz.func94, Tryz.ntmps94
  by_cases h1 : i < 0
  · clear hi
    go_wp2_with fail
    go_ret2
    exact ⟨rfl, rfl⟩
  · have h2 : (16777216 : Int) ≤ i := by omega
    clear hi
    go_wp2_with fail
    go_ret2
    exact ⟨rfl, rfl⟩
abbrev VC (p : Nat × Nat) : Value := .complex .f64 p.1 p.2
theorem rd_getc {w : World} {B : Nat} {A : Option Addr} {zs : List (Nat × Nat)} (h : Rd w B A (zs.map VC)) {k : Nat} {z : Nat × Nat} (hk : zs[k]? = some z) : ∃ b off, A = some ⟨b, off, none⟩ ∧ b < B ∧ w.cell? ⟨b, off + k, none⟩ = some (VC z) :=
  h k _ (by rw [List.getElem?_map, hk]; rfl)
end Go.Proofs.YtmeoafodcniliaaGreatDoor.C24
