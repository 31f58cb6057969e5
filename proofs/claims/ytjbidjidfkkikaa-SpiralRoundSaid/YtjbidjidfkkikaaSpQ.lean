/- spiral.place and Turn of any doubles -/
import Derived.Test.YtjbidjidfkkikaaSpP
import Derived.Test.YtjbidjidfkkikaaFlN
namespace Go.Proofs.Ytjbidjidfkkikaa
open Go.RowKit
set_option linter.unusedSimpArgs false
set_option linter.unusedVariables false
/-- A sum that is none: a NaN off the tape. -/
theorem run_nan {P : Program} (w : World) (op : BinOp) (t : TypeId) (x y : Nat) (ho : op = .add ∨ op = .sub) (h : floatBits op .f64 x y = none) :
    (binOp op t (.float .f64 x) (.float .f64 y)).run P w = .ok (.float .f64 (Question.cut (.nanBits .f64 x y) (w.tape w.drawn (.nanBits .f64 x y)))) w.drew := by
  unfold floatBits at h
  rcases ho with rfl | rfl <;> simp only at h <;> simp [binOp, Op.floatArith, h] <;> (intro h; simp [Question.forced] at h)
theorem place_any (x y : Nat) (w : World) : Calls Try.prog 35 #[.float .f64 x, .float .f64 y] w fun e w' => ∃ a b k, e = .returned (.complex .f64 a b) ∧ w' = w.drewN k ∧ (∀ r, Ieee.double.add x 0 = some r → a = r) ∧ (∀ r, Ieee.double.add y 0 = some r → b = r) := by
  cases h1 : Ieee.double.add x 0 with
  | some a =>
    have g1 := fun w => run_float_arith (P := Try.prog) w .add 32 .f64 x 0 a h1
    cases h2 : Ieee.double.add y 0 with
    | some b =>
      have g2 := fun w => run_float_arith (P := Try.prog) w .add 32 .f64 y 0 b h2
      clear h1 h2
      go_enter Try.func35, Try.ntmps35
      go_wp2_with fail
      go_ret
      refine ⟨_, _, 0, rfl, rfl, ?_, ?_⟩ <;> (intro r h; first | (injection h) | (cases h))
    | none =>
      have g2 := fun w => run_nan (P := Try.prog) w .add 32 y 0 (Or.inl rfl) h2
      clear h1 h2
      go_enter Try.func35, Try.ntmps35
      go_wp2_with fail
      go_ret
      refine ⟨_, _, 1, rfl, rfl, ?_, ?_⟩ <;> (intro r h; first | (injection h) | (cases h))
  | none =>
    have g1 := fun w => run_nan (P := Try.prog) w .add 32 x 0 (Or.inl rfl) h1
    cases h2 : Ieee.double.add y 0 with
    | some b =>
      have g2 := fun w => run_float_arith (P := Try.prog) w .add 32 .f64 y 0 b h2
      clear h1 h2
      go_enter Try.func35, Try.ntmps35
      go_wp2_with fail
      go_ret
      refine ⟨_, _, 1, rfl, rfl, ?_, ?_⟩ <;> (intro r h; first | (injection h) | (cases h))
    | none =>
      have g2 := fun w => run_nan (P := Try.prog) w .add 32 y 0 (Or.inl rfl) h2
      clear h1 h2
      go_enter Try.func35, Try.ntmps35
      go_wp2_with fail
      go_ret
      refine ⟨_, _, 2, rfl, rfl, ?_, ?_⟩ <;> (intro r h; first | (injection h) | (cases h))
/-- Turned bit by bit. -/
def Sp.rot : Nat → Nat → Nat → Nat × Nat
  | 0, x, y => (x, y)
  | k + 1, x, y => (Op.negFloat .f64 (Sp.rot k x y).2, (Sp.rot k x y).1)
/-- How many times it is turned. -/
def Sp.times (t : Int) : Nat := (t % 4).toNat
theorem Sp.tmod4 (t : Int) : (0 ≤ t ∧ Int.tmod t 4 = t % 4) ∨ (t < 0 ∧ Int.tmod t 4 = -((-t) % 4)) := by
  by_cases h : 0 ≤ t
  · exact Or.inl ⟨h, Int.tmod_eq_emod_of_nonneg h⟩
  · right
    refine ⟨by omega, ?_⟩
    have := Int.neg_tmod (-t) 4
    rw [Int.neg_neg] at this
    rw [this, Int.tmod_eq_emod_of_nonneg (by omega)]
theorem Sp.times_eq (t : Int) : (Int.tmod (Int.tmod t 4 + 4) 4) = (Sp.times t : Int) ∧ Sp.times t < 4 ∧ -4 < Int.tmod t 4 ∧ Int.tmod t 4 < 4 := by
  unfold Sp.times
  have h := Sp.tmod4 t
  rw [Int.tmod_eq_emod_of_nonneg (by omega)]
  omega
theorem neg_run (x : Nat) (w : World) : (Op.unary .neg (.float .f64 x)).run Try.prog w = .ok (.float .f64 (Op.negFloat .f64 x)) w := rfl
theorem neg_bits (x : Nat) : Op.negFloat .f64 x = x ^^^ 9223372036854775808 := rfl
set_option maxHeartbeats 1000000 in
theorem Turn_calls (x y : Nat) (t : Int) (w : World) (ht : -9223372036854775808 ≤ t ∧ t ≤ 9223372036854775807) : Calls Try.prog 26 #[.complex .f64 x y, .int .i64 t] w fun e w' => ∃ a b k, e = .returned (.complex .f64 a b) ∧ w' = w.drewN k ∧ (∀ r, Ieee.double.add (Sp.rot (Sp.times t) x y).1 0 = some r → a = r) ∧ (∀ r, Ieee.double.add (Sp.rot (Sp.times t) x y).2 0 = some r → b = r) := by
  obtain ⟨h1, h2, hb1, hb2⟩ := Sp.times_eq t
  generalize Sp.times t = n at *
  go_enter Try.func26, Try.ntmps26
  go_wp2_with fail
  go_loopw [5, 6, 15] (fun p q i wr => ∃ a : Nat, i = .int .i64 (a : Int) ∧ a ≤ n ∧ p = .float .f64 (Sp.rot a x y).1 ∧ q = .float .f64 (Sp.rot a x y).2 ∧ w = wr) (fun _ _ i _ => n - (intOf i).toNat)
  case atStart => exact ⟨0, rfl, by omega, rfl, rfl, rfl⟩
  case round =>
    obtain ⟨a, rfl, ha, rfl, rfl, rfl⟩ := hrel
    by_cases hlt : a < n
    · have l1 : (a : Int) < (n : Int) := by omega
      have Hr := Lib.hid (show (Op.negFloat .f64 (Sp.rot a x y).2, (Sp.rot a x y).1) = Sp.rot (a + 1) x y from rfl)
      generalize (Sp.rot a x y).1 = p at *
      generalize (Sp.rot a x y).2 = q at *
      have hneg := fun w => neg_run q w
      go_wp2_with fail
      exact ⟨⟨a + 1, by congr 1, by omega, by rw [← Hr.out], by rw [← Hr.out], trivial⟩, by simp [intOf]; omega⟩
    · obtain rfl : a = n := by omega
      obtain ⟨p, hp⟩ : ∃ p, p = Sp.rot a x y := ⟨_, rfl⟩
      have HP := Lib.hid (place_any p.1 p.2)
      have Hp := Lib.hid hp
      rw [← hp]
      clear hp
      go_wp2_with fail
      refine (HP.out w).mono ?_
      rintro e w' ⟨a, b, k, rfl, rfl, h⟩
      go_wp2_with fail
      go_ret
      rw [Hp.out] at h
      exact ⟨_, _, k, rfl, rfl, h⟩
theorem rot_fin (x y : Nat) (hx : x < 18446744073709551616) (fx : Fl.Fin x) (hy : y < 18446744073709551616) (fy : Fl.Fin y) : ∀ k, (Sp.rot k x y).1 < 18446744073709551616 ∧ Fl.Fin (Sp.rot k x y).1 ∧ (Sp.rot k x y).2 < 18446744073709551616 ∧ Fl.Fin (Sp.rot k x y).2
  | 0 => ⟨hx, fx, hy, fy⟩
  | k + 1 => by
    obtain ⟨h1, h2, h3, h4⟩ := rot_fin x y hx fx hy fy k
    obtain ⟨g1, g2, _⟩ := Fl.neg_lt h3 h4
    exact ⟨g1, g2, h1, h2⟩
/-- Turn of finite numbers: no negative nought. -/
theorem Turn_fin (x y : Nat) (hx : x < 18446744073709551616) (fx : Fl.Fin x) (hy : y < 18446744073709551616) (fy : Fl.Fin y) (t : Int) (w : World) (ht : -9223372036854775808 ≤ t ∧ t ≤ 9223372036854775807) : Calls Try.prog 26 #[.complex .f64 x y, .int .i64 t] w fun e w' => ∃ k, e = .returned (.complex .f64 (Fl.can (Sp.rot (Sp.times t) x y).1) (Fl.can (Sp.rot (Sp.times t) x y).2)) ∧ w' = w.drewN k := by
  refine (Turn_calls x y t w ht).mono ?_
  rintro e w' ⟨a, b, k, rfl, rfl, h1, h2⟩
  obtain ⟨g1, g2, g3, g4⟩ := rot_fin x y hx fx hy fy (Sp.times t)
  rw [h1 _ (Fl.add_zero_fin g1 g2), h2 _ (Fl.add_zero_fin g3 g4)]
  exact ⟨k, rfl, rfl⟩
end Go.Proofs.Ytjbidjidfkkikaa
