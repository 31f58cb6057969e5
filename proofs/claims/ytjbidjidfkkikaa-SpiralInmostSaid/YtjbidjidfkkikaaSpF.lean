/- spiral.Index at whole numbers -/
import Derived.Test.YtjbidjidfkkikaaSpE
namespace Go.Proofs.Ytjbidjidfkkikaa
open Go.RowKit
set_option linter.unusedSimpArgs false
set_option linter.unusedVariables false
set_option exponentiation.threshold 2000
theorem neg_n : Fl.IsN 13830554455654793216 (-1) := ⟨true, 52, by decide, by decide, by decide⟩
theorem mul_mi {p q : Nat} {u v : Int} (hp : Fl.IsN p u) (hq : Fl.IsN q v) (hu : u.natAbs < 2 ^ 53) (hv : v.natAbs < 2 ^ 53) : ∃ re im, cMulBits p q 0 13830554455654793216 = some (re, im) ∧ Fl.IsN re v ∧ Fl.IsN im (-u) := by
  obtain ⟨ac, e1, n1⟩ := hp.mul zero_n (by rw [Int.mul_zero]; decide)
  obtain ⟨bd, e2, n2⟩ := hq.mul neg_n (by omega)
  obtain ⟨re, e3, n3⟩ := (n1.n (by rw [Int.mul_zero]; decide)).sub (n2.n (by omega)) (by omega)
  obtain ⟨ad, e4, n4⟩ := hp.mul neg_n (by omega)
  obtain ⟨bc, e5, n5⟩ := hq.mul zero_n (by rw [Int.mul_zero]; decide)
  obtain ⟨im, e6, n6, _⟩ := (n4.n (by omega)).add (n5.n (by rw [Int.mul_zero]; decide)) (by omega)
  refine ⟨re, im, ?_, ?_, ?_⟩
  · unfold cMulBits floatBits
    show ((Ieee.double.mul p 0).bind fun ac => (Ieee.double.mul q 13830554455654793216).bind fun bd => (Ieee.double.sub ac bd).bind fun re => (Ieee.double.mul p 13830554455654793216).bind fun ad => (Ieee.double.mul q 0).bind fun bc => (Ieee.double.add ad bc).bind fun im => some (re, im)) = _
    rw [e1]; simp only [Option.bind_some]; rw [e2]; simp only [Option.bind_some]; rw [e3]; simp only [Option.bind_some]; rw [e4]; simp only [Option.bind_some]; rw [e5]; simp only [Option.bind_some]; rw [e6]; rfl
  · have := n3.n (by omega)
    rwa [show u * 0 - v * -1 = v by omega] at this
  · have := n6.n (by omega)
    rwa [show u * -1 + v * 0 = -u by omega] at this
theorem tell_calls (i : Nat) (w : World) : Calls Try.prog 37 #[.int .i64 (i : Int)] w fun e w' => e = .returned (.int .i64 (if i < 16777216 then 1 else 0)) ∧ w = w' := by
  go_enter Try.func37, Try.ntmps37
  have h0 : (0 : Int) ≤ (i : Int) := by omega
  by_cases h : i < 16777216
  · have h1 : (i : Int) < 16777216 := by omega
    rw [if_pos h]
    clear h
    go_wp2_with fail
    go_ret
    exact ⟨rfl, rfl⟩
  · have h1 : ¬ (i : Int) < 16777216 := by omega
    rw [if_neg h]
    clear h
    go_wp2_with fail
    go_ret
    exact ⟨rfl, rfl⟩
theorem Index_zero (x y : Nat) (hx : Fl.IsN x 0) (hy : Fl.IsN y 0) (bx : x < 18446744073709551616) (bY : y < 18446744073709551616) (w : World) :
    Calls Try.prog 17 #[.complex .f64 x y] w fun e w' => e = .returned (.tuple #[.int .i64 0, .bool true]) ∧ w = w' := by
  have HR := Lib.hid (Ring_yes x y 0 0 hx hy (by decide) (by decide) bx bY)
  clear hx hy bx bY
  go_enter Try.func17, Try.ntmps17
  go_wp2_with fail
  refine (HR.out w).mono ?_
  rintro e w' ⟨rfl, rfl⟩
  rw [show max ((Int.natAbs 0 : Nat) : Int) ((Int.natAbs 0 : Nat) : Int) = 0 from rfl]
  go_wp2_with fail
  go_ret2
  exact ⟨rfl, rfl⟩
set_option maxHeartbeats 2000000 in
theorem Index_yes (x y I : Nat) (u v : Int) (hx : Fl.IsN x u) (hy : Fl.IsN y v) (hu : u.natAbs ≤ 4503599627370496) (hv : v.natAbs ≤ 4503599627370496) (bx : x < 18446744073709551616) (bY : y < 18446744073709551616) (hI : Sp.IdxIs I u v) (w : World) :
    Calls Try.prog 17 #[.complex .f64 x y] w fun e w' => e = .returned (.tuple #[.int .i64 (if I < 16777216 then (I : Int) else 0), .bool (decide (I < 16777216))]) ∧ w = w' := by
  have HR := Lib.hid (Ring_yes x y u v hx hy hu hv bx bY)
  obtain ⟨r, hr, hr1, hr2, hr3⟩ := Sp.idx_ring hI
  rw [hr] at HR
  have Hx := Lib.hid hx; have Hy := Lib.hid hy; have HI := Lib.hid hI; have Hr := Lib.hid hr
  have hub : u.natAbs ≤ r := by omega
  have hvb : v.natAbs ≤ r := by omega
  have hr0 : ((r : Int) == 0) = false := by rw [beq_eq_false_iff_ne]; omega
  have hrs : r ≤ 4503599627370496 := by omega
  clear hx hy hI hr bx bY hu hv
  go_enter Try.func17, Try.ntmps17
  by_cases hbig : 16777216 < r
  · have l1 : (16777216 : Int) < (r : Int) := by omega
    have hIb : ¬ I < 16777216 := by
      have := Nat.mul_le_mul (show 16777217 ≤ 2 * r - 1 by omega) (show 1 ≤ 2 * r - 1 by omega)
      omega
    rw [if_neg hIb, decide_eq_false hIb]
    clear hr2 hr3 hbig
    go_wp2_with fail
    refine (HR.out w).mono ?_
    rintro e w' ⟨rfl, rfl⟩
    go_wp2_with fail
    go_ret2
    exact ⟨rfl, rfl⟩
  · have l1 : ¬ (16777216 : Int) < (r : Int) := by omega
    clear hr2 hr3
    go_wp2_with fail
    refine (HR.out w).mono ?_
    rintro e w' ⟨rfl, rfl⟩
    go_wp2_with fail
    go_loopw [0, 23] (fun z k wr => ∃ (a p q : Nat), k = .int .i64 (a : Int) ∧ a ≤ 4 ∧ (∀ s, s < a → ¬ Sp.hit r s u v) ∧ (a < 4 → z = .complex .f64 p q ∧ Fl.IsN p (Sp.tr a u v).1 ∧ Fl.IsN q (Sp.tr a u v).2) ∧ w = wr) (fun _ k _ => 4 - (intOf k).toNat)
    case atStart => exact ⟨0, x, y, rfl, by omega, fun s h => absurd h (by omega), fun _ => ⟨rfl, Hx.out, Hy.out⟩, rfl⟩
    case round =>
      obtain ⟨a, p, q, rfl, ha, hno, hz, rfl⟩ := hrel
      have ha4 : a < 4 := by
        rcases Nat.lt_or_ge a 4 with h | h
        · exact h
        · exfalso
          rcases Sp.some_hit hr1 Hr.out with h | h | h | h
          · exact hno 0 (by omega) h
          · exact hno 1 (by omega) h
          · exact hno 2 (by omega) h
          · exact hno 3 (by omega) h
      obtain ⟨rfl, hp, hq⟩ := hz ha4
      have l2 : (a : Int) < 4 := by omega
      have hsm := Sp.tr_small a u v r hub hvb
      have hcx := conv_n hp (by omega)
      have hcy := conv_n hq (by omega)
      have Hno := Lib.hid hno
      by_cases hh : Sp.hit r a u v
      · obtain ⟨al, g1, g2, g3⟩ := Sp.hit_idx hr1 ha4 hub hvb hh
        have HII := Lib.hid (Sp.idx_one HI.out g3)
        obtain ⟨R, hR⟩ : ∃ R : Nat, R = 2 * r := ⟨_, rfl⟩
        have hRb : R ≤ 33554432 := by omega
        have hOle : (2 * r - 1) * (2 * r - 1) ≤ 33554431 * 33554431 := Nat.mul_le_mul (by omega) (by omega)
        obtain ⟨O, hO, hO2⟩ : ∃ O : Nat, ((R : Int) - 1) * ((R : Int) - 1) = (O : Int) ∧ (2 * r - 1) * (2 * r - 1) = O := ⟨(2 * r - 1) * (2 * r - 1), by rw [show (R : Int) - 1 = ((2 * r - 1 : Nat) : Int) by omega]; push_cast; rfl, rfl⟩
        have hSle : 2 * r * a ≤ 33554432 * 4 := Nat.mul_le_mul (by omega) (by omega)
        obtain ⟨S, hS, hS2⟩ : ∃ S : Nat, (a : Int) * 2 * (r : Int) = (S : Int) ∧ 2 * r * a = S := ⟨2 * r * a, by push_cast; rw [Int.mul_comm ((a : Int) * 2) (r : Int), Int.mul_comm (a : Int) 2, ← Int.mul_assoc, Int.mul_comm (r : Int) 2], rfl⟩
        rw [hO2] at hOle HII
        rw [hS2] at hSle HII
        have hR1 : 2 * (r : Int) = (R : Int) := by omega
        obtain ⟨k1, k2⟩ := hh
        have hX : ((Sp.tr a u v).1 == (r : Int)) = true := by rw [beq_iff_eq]; exact k1
        obtain ⟨X, hXe⟩ : ∃ X, X = (Sp.tr a u v).1 := ⟨_, rfl⟩
        obtain ⟨Y, hYe⟩ : ∃ Y, Y = (Sp.tr a u v).2 := ⟨_, rfl⟩
        rw [← hXe] at hcx hX hsm
        rw [← hYe] at hcy k2 g2 hsm
        have hsum : (O : Int) + (S : Int) + Y - 1 + (r : Int) = (I : Int) := by rw [HII.out]; push_cast; omega
        clear hp hq k1 hXe hYe hz hno g3 hO2 hS2 hR
        go_wp2_with fail
        have hIb : (I : Int) ≤ 1125899906842624 * 4 := by have := HII.out; omega
        clear hsum hO hS hOle hSle hX hcx hcy hsm g1 g2 k2
        by_cases hin : I < 16777216
        · have Hin := Lib.hid hin
          refine (tell_calls I w).mono ?_
          rintro e w' ⟨rfl, rfl⟩
          rw [if_pos hin]
          go_wp2_with fail
          refine (tell_calls I w).mono ?_
          rintro e w' ⟨rfl, rfl⟩
          rw [if_pos hin]
          go_wp2_with fail
          go_ret2
          exact ⟨by first | rfl | (rw [decide_eq_true Hin.out]; rfl) | (rw [if_pos Hin.out]; rfl), rfl⟩
        · have Hin := Lib.hid hin
          refine (tell_calls I w).mono ?_
          rintro e w' ⟨rfl, rfl⟩
          rw [if_neg hin]
          go_wp2_with fail
          refine (tell_calls I w).mono ?_
          rintro e w' ⟨rfl, rfl⟩
          rw [if_neg hin]
          go_wp2_with fail
          go_ret2
          exact ⟨by first | rfl | (rw [decide_eq_false Hin.out]; rfl) | (rw [if_neg Hin.out]; rfl), rfl⟩
      · obtain ⟨re, im, hmul, hre, him⟩ := mul_mi hp hq (by omega) (by omega)
        have g := fun w => run_complex_mul (P := Try.prog) w 23 p q 0 13830554455654793216 re im hmul
        have Hre := Lib.hid hre; have Him := Lib.hid him
        have Ht := Lib.hid (fun h => Sp.tr_succ a u v h)
        have Hno2 := Lib.hid (show ∀ s, s < a + 1 → ¬ Sp.hit r s u v from fun s hs => by
          rcases Nat.lt_or_ge s a with h | h
          · exact Hno.out s h
          · have : s = a := by omega
            subst this; exact hh)
        have hcase : (((Sp.tr a u v).1 == (r : Int)) = false) ∨ (((Sp.tr a u v).1 == (r : Int)) = true ∧ ¬ -(r : Int) < (Sp.tr a u v).2) := by
          unfold Sp.hit at hh
          by_cases h : (Sp.tr a u v).1 = r
          · right; exact ⟨by rw [beq_iff_eq]; exact h, fun h2 => hh ⟨h, h2⟩⟩
          · left; rw [beq_eq_false_iff_ne]; exact h
        obtain ⟨X, hXe⟩ : ∃ X, X = (Sp.tr a u v).1 := ⟨_, rfl⟩
        obtain ⟨Y, hYe⟩ : ∃ Y, Y = (Sp.tr a u v).2 := ⟨_, rfl⟩
        rw [← hXe, ← hYe] at hcase hsm
        rw [← hXe] at hcx Him
        rw [← hYe] at hcy Hre
        have HX := Lib.hid hXe; have HY := Lib.hid hYe
        clear hp hq hno hz hXe hYe hmul hre him hh
        rcases hcase with hX | ⟨hX, hY⟩
        all_goals go_wp2_with fail
        all_goals exact ⟨⟨a + 1, re, im, by congr 1, by omega, Hno2.out, fun h => ⟨rfl, by rw [Ht.out (by omega), ← HY.out]; exact Hre.out, by rw [Ht.out (by omega), ← HX.out]; exact Him.out⟩, trivial⟩, by simp [intOf]; omega⟩
end Go.Proofs.Ytjbidjidfkkikaa
