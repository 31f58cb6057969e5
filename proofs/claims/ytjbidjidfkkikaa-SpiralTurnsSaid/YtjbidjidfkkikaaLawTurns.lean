/- SpiralTurns: the walk -/
import Derived.Test.YtjbidjidfkkikaaSpQ
import Derived.Test.YtjbidjidfkkikaaLift
namespace Go.Proofs.Ytjbidjidfkkikaa
open Go.ChangeShapes Go.WideShapes Go.ChangeAt Go.RowKit
set_option linter.unusedSimpArgs false
set_option linter.unusedVariables false
theorem good_yes (x : Nat) (hx : Fl.Fin x) (w : World) : Calls Try.prog 27 #[.float .f64 x] w fun e w' => e = .returned (.bool true) ∧ w = w' := by
  have g1 := fun w => run_float_arith (P := Try.prog) w .sub 32 .f64 x x 0 (Fl.sub_self_fin hx)
  have g2 : FloatKind.f64.format.order 0 0 = some .eq := by decide
  clear hx
  go_enter Try.func27, Try.ntmps27
  go_wp2_with fail
  go_ret
  exact ⟨rfl, rfl⟩
theorem good_no (x : Nat) (hx : ¬ Fl.Fin x) (w : World) : Calls Try.prog 27 #[.float .f64 x] w fun e w' => e = .returned (.bool false) ∧ w' = w.drewN 1 := by
  have g1 := fun w => run_nan (P := Try.prog) w .sub 32 x x (Or.inr rfl) (Fl.sub_self_not hx)
  have g2 : ∀ t, FloatKind.f64.format.order (Question.cut (.nanBits .f64 x x) t) 0 = none := fun t => Fl.nan_order t 0
  clear hx
  go_enter Try.func27, Try.ntmps27
  go_wp2_with fail
  go_ret
  exact ⟨rfl, rfl⟩
/-- Turned as the statement turns. -/
def Sp.tnd : Nat → Nat → Nat → Nat × Nat
  | 0, x, y => (x, y)
  | k + 1, x, y => (Fl.can ((Sp.tnd k x y).2 ^^^ 9223372036854775808), (Sp.tnd k x y).1)
theorem tnd_fin (x y : Nat) (hx : x < 18446744073709551616) (fx : Fl.Fin x) (hy : y < 18446744073709551616) (fy : Fl.Fin y) : ∀ k, (Sp.tnd k x y).1 < 18446744073709551616 ∧ Fl.Fin (Sp.tnd k x y).1 ∧ (Sp.tnd k x y).2 < 18446744073709551616 ∧ Fl.Fin (Sp.tnd k x y).2 ∧
    Fl.can (Sp.tnd k x y).1 = Fl.can (Sp.rot k x y).1 ∧ Fl.can (Sp.tnd k x y).2 = Fl.can (Sp.rot k x y).2
  | 0 => ⟨hx, fx, hy, fy, rfl, rfl⟩
  | k + 1 => by
    obtain ⟨h1, h2, h3, h4, h5, h6⟩ := tnd_fin x y hx fx hy fy k
    obtain ⟨r1, r2, r3, r4⟩ := rot_fin x y hx fx hy fy k
    obtain ⟨g1, g2, _⟩ := Fl.neg_lt h3 h4
    obtain ⟨g3, g4⟩ := Fl.can_lt g1 g2
    refine ⟨g3, g4, h1, h2, ?_, h5⟩
    show Fl.can (Fl.can _) = Fl.can (_ ^^^ _)
    rw [Fl.can_can]
    exact Fl.can_neg h3 h4 r3 r4 h6
set_option maxHeartbeats 1000000 in
theorem turned_calls (x y : Nat) (hx : x < 18446744073709551616) (fx : Fl.Fin x) (hy : y < 18446744073709551616) (fy : Fl.Fin y) (t : Int) (w : World) (ht : -9223372036854775808 ≤ t ∧ t ≤ 9223372036854775807) :
    Calls Try.prog 28 #[.float .f64 x, .float .f64 y, .int .i64 t] w fun e w' => e = .returned (.tuple #[.float .f64 (Fl.can (Sp.rot (Sp.times t) x y).1), .float .f64 (Fl.can (Sp.rot (Sp.times t) x y).2)]) ∧ w = w' := by
  obtain ⟨h1, h2, hb1, hb2⟩ := Sp.times_eq t
  have Hf := Lib.hid (tnd_fin x y hx fx hy fy)
  generalize Sp.times t = n at *
  clear hx fx hy fy
  go_enter Try.func28, Try.ntmps28
  go_wp2_with fail
  go_loopw [0, 1, 9] (fun p q i wr => ∃ a : Nat, i = .int .i64 (a : Int) ∧ a ≤ n ∧ p = .float .f64 (Sp.tnd a x y).1 ∧ q = .float .f64 (Sp.tnd a x y).2 ∧ w = wr) (fun _ _ i _ => n - (intOf i).toNat)
  case atStart => exact ⟨0, rfl, by omega, rfl, rfl, rfl⟩
  case round =>
    obtain ⟨a, rfl, ha, rfl, rfl, rfl⟩ := hrel
    obtain ⟨k1, k2, k3, k4, k5, k6⟩ := Hf.out a
    by_cases hlt : a < n
    · have l1 : (a : Int) < (n : Int) := by omega
      have Hr := Lib.hid (show (Fl.can ((Sp.tnd a x y).2 ^^^ 9223372036854775808), (Sp.tnd a x y).1) = Sp.tnd (a + 1) x y from rfl)
      have g1 := fun w => run_float_arith (P := Try.prog) w .sub 32 .f64 0 _ _ (Fl.sub_zero_fin k3 k4)
      clear k1 k2 k3 k4 k5 k6
      generalize (Sp.tnd a x y).1 = p at *
      generalize (Sp.tnd a x y).2 = q at *
      generalize Fl.can (q ^^^ 9223372036854775808) = q' at *
      go_wp2_with fail
      exact ⟨⟨a + 1, by congr 1, by omega, by rw [← Hr.out], by rw [← Hr.out], trivial⟩, by simp [intOf]; omega⟩
    · obtain rfl : a = n := by omega
      have g1 := fun w => run_float_arith (P := Try.prog) w .add 32 .f64 _ 0 _ (Fl.add_zero_fin k1 k2)
      have g2 := fun w => run_float_arith (P := Try.prog) w .add 32 .f64 _ 0 _ (Fl.add_zero_fin k3 k4)
      rw [k5] at g1
      rw [k6] at g2
      clear k1 k2 k3 k4 k5 k6
      go_wp2_with fail
      go_ret2
      exact ⟨rfl, rfl⟩
/-- What is asked of an answer's part. -/
theorem part_ok {x : Nat} (hx : x < 18446744073709551616) (fx : Fl.Fin x) : FloatKind.f64.format.order (Fl.can x) (Fl.can x) = some .eq ∧ (Fl.can x = 0 ∨ FloatKind.f64.format.order (Fl.can x) 0 = some .lt ∨ FloatKind.f64.format.order (Fl.can x) 0 = some .gt) :=
  ⟨Fl.order_self_fin (Fl.can_lt hx fx).2, Fl.can_zero hx fx⟩
set_option maxHeartbeats 4000000 in
set_option maxRecDepth 20000 in
theorem law_turns (x y : Nat) (t : Int) (w : World) (hx : (Lit.float .f64 x).wf = true) (hy : (Lit.float .f64 y).wf = true) (ht0 : (Lit.int .i64 t).wf = true) :
    Calls Try.prog 10 #[.float .f64 x, .float .f64 y, .int .i64 t] w fun e w' => e = .returned (.bool true) ∧ Below w.heap.size w w' := by
  have hx : x < 18446744073709551616 := by simpa [Lit.wf] using hx
  have hy : y < 18446744073709551616 := by simpa [Lit.wf] using hy
  have ht := bounds_i64 ht0
  have HT := Lib.hid (fun w => Turn_calls x y t w ht)
  go_enter Try.func10, Try.ntmps10
  go_wp2_with fail
  refine (first_calls w).mono ?_
  rintro e w1 ⟨rfl, hb1⟩
  have hs1 := hb1.size
  have Hb1 := Lib.hid hb1
  clear hb1 ht0
  by_cases fx : Fl.Fin x
  · have HG := Lib.hid (good_yes x fx)
    by_cases fy : Fl.Fin y
    · have HG' := Lib.hid (good_yes y fy)
      have HF := Lib.hid (fun w => Turn_fin x y hx fx hy fy t w ht)
      have HR := Lib.hid (fun w => turned_calls x y hx fx hy fy t w ht)
      obtain ⟨r1, r2, r3, r4⟩ := rot_fin x y hx fx hy fy (Sp.times t)
      obtain ⟨p1, p2⟩ := part_ok r1 r2
      obtain ⟨q1, q2⟩ := part_ok r3 r4
      clear r1 r2 r3 r4 HT hx hy fx fy ht
      generalize Fl.can (Sp.rot (Sp.times t) x y).1 = p at *
      generalize Fl.can (Sp.rot (Sp.times t) x y).2 = q at *
      go_wp2_with fail
      refine (HF.out w1).mono ?_
      rintro e w2 ⟨k2, rfl, rfl⟩
      have Hb2 := Lib.hid (below_drewN Hb1.out k2)
      generalize w1.drewN k2 = w2 at *
      go_wp2_with (first
        | (go_at_call 27; refine (HG.out _).mono ?_; rintro e w' ⟨rfl, rfl⟩)
        | (go_at_call 27; refine (HG'.out _).mono ?_; rintro e w' ⟨rfl, rfl⟩))
      refine (HR.out w2).mono ?_
      rintro e w3 ⟨rfl, rfl⟩
      have z1 : FloatKind.f64.format.order 0 0 = some .eq := by decide
      have z2 := fun w => run_float_arith (P := Try.prog) w .quo 32 .f64 4607182418800017408 0 _ div_pos_zero
      have z3 : FloatKind.f64.format.order 9218868437227405312 0 = some .gt := inf_gt
      rcases p2 with rfl | p2 | p2 <;> rcases q2 with rfl | q2 | q2
      all_goals
        go_wp2_with fail
        go_ret
        exact ⟨rfl, Hb2.out⟩
    · have HG' := Lib.hid (good_no y fy)
      clear fx fy hx hy ht
      go_wp2_with fail
      refine (HT.out w1).mono ?_
      rintro e w2 ⟨a, b, k2, rfl, rfl, _⟩
      have Hb2 := Lib.hid (below_drewN Hb1.out k2)
      generalize w1.drewN k2 = w2 at *
      go_wp2_with fail
      refine (HG.out w2).mono ?_
      rintro e w3 ⟨rfl, rfl⟩
      go_wp2_with fail
      refine (HG'.out w2).mono ?_
      rintro e w3 ⟨rfl, rfl⟩
      have Hb3 := Lib.hid (below_drewN Hb2.out 1)
      generalize w2.drewN 1 = w3 at *
      go_wp2_with fail
      go_ret
      exact ⟨rfl, Hb3.out⟩
  · have HG := Lib.hid (good_no x fx)
    clear fx hx hy ht
    go_wp2_with fail
    refine (HT.out w1).mono ?_
    rintro e w2 ⟨a, b, k2, rfl, rfl, _⟩
    have Hb2 := Lib.hid (below_drewN Hb1.out k2)
    generalize w1.drewN k2 = w2 at *
    go_wp2_with fail
    refine (HG.out w2).mono ?_
    rintro e w3 ⟨rfl, rfl⟩
    have Hb3 := Lib.hid (below_drewN Hb2.out 1)
    generalize w2.drewN 1 = w3 at *
    go_wp2_with fail
    go_ret
    exact ⟨rfl, Hb3.out⟩
end Go.Proofs.Ytjbidjidfkkikaa
