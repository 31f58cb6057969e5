/- math.Sqrt, Trunc, Abs; spiral.root, place, Side -/
import Derived.Test.YtmeoafodcniliaaGreatDoorInts
import Derived.Test.YtmeoafodcniliaaGreatDoorSpM
import Derived.WalkLawsBesides
namespace Go.Proofs.YtmeoafodcniliaaGreatDoor.C24
open Go.RowKit
set_option linter.unusedSimpArgs false
set_option linter.unusedVariables false
abbrev FV (b : Nat) : Value := .float .f64 b
theorem ext_sqrt (x r : Nat) (h : Ieee.double.sqrt x = some r) (w : World) : (callFunc 258 #[.float .f64 x]).run Tryz.prog w = .ok (.value (.float .f64 r)) w := by
  rw [run_callFunc_extern Tryz.func258 (by kernel_rfl) (by kernel_rfl) (by kernel_rfl) (by kernel_rfl)]
  have : (Extern.MathSqrt.sqrt #[.float .f64 x]).run Tryz.prog w = .ok (.float .f64 r) w := by
    change Sem.run Tryz.prog (match FloatKind.f64.format.sqrt x with | some r => (pure (Value.float .f64 r) : Sem Value) | none => (do pure (.float .f64 (← choose (.nanBits .f64 x x))))) w = _
    rw [show FloatKind.f64.format.sqrt x = some r from h]
    rfl
  change ((Extern.MathSqrt.sqrt #[.float .f64 x]).run Tryz.prog w).andThen _ = _
  rw [this]; rfl
theorem Sqrt_calls (x r : Nat) (h : Ieee.double.sqrt x = some r) (w : World) : Calls Tryz.prog 241 #[.float .f64 x] w fun e w' => e = .returned (.float .f64 r) ∧ w = w' := by
  have hx := ext_sqrt x r h
  clear h
  go_enter Tryz.func241, Tryz.ntmps241
  go_wp2_with fail
  go_ret
  exact ⟨rfl, rfl⟩
theorem conv_fi (b : Nat) (n : Int) (h : floatToIntVal .f64 b .i64 = some n) (w : World) : (convert 174 3 (.float .f64 b)).run Tryz.prog w = .ok (.int .i64 n) w :=
  run_convert_float_int w _ _ .f64 .i64 b n (by kernel_rfl) (by kernel_rfl) h
theorem conv_if (n : Int) (w : World) : (convert 3 174 (.int .i64 n)).run Tryz.prog w = .ok (.float .f64 (floatOfInt .f64 n)) w :=
  run_convert_int_float w _ _ .i64 .f64 n (by kernel_rfl) (by kernel_rfl)
set_option maxHeartbeats 1000000 in
theorem root_calls (n : Nat) (hn : n ≤ 9223372036854775807) (w : World) : Calls Tryz.prog 180 #[.int .i64 (n : Int)] w fun e w' => e = .returned (.int .i64 (Sp.isq n : Nat)) ∧ w = w' := by
  obtain ⟨r, hr, v, hv, hv0, hv1⟩ := Fl.sqrt_int (n : Int) (by omega) (by omega)
  have hc := conv_fi r v hv
  have hi := conv_if (n : Int)
  have HR := Lib.hid hr
  generalize floatOfInt .f64 (n : Int) = x at *
  clear hr hv
  go_enter Tryz.func180, Tryz.ntmps180
  go_wp2_with fail
  refine (Sqrt_calls x r HR.out w).mono ?_
  rintro e w' ⟨rfl, rfl⟩
  obtain ⟨u, rfl⟩ : ∃ u : Nat, v = (u : Int) := ⟨v.toNat, by omega⟩
  by_cases hle : (u : Int) ≤ 3037000499
  · go_wp2_with fail
    go_loopw [3] (fun r wr => ∃ x : Nat, r = .int .i64 (x : Int) ∧ x ≤ 3037000499 ∧ w = wr) (fun r _ => (intOf r).toNat)
    case atStart => exact ⟨u, rfl, by omega, rfl⟩
    case round =>
      obtain ⟨y, rfl, hy, rfl⟩ := hrel
      have hsq : y * y ≤ 3037000499 * 3037000499 := Nat.mul_le_mul hy hy
      obtain ⟨q, hq, hq2⟩ : ∃ q : Nat, (y : Int) * (y : Int) = (q : Int) ∧ y * y = q := ⟨y * y, by push_cast; rfl, rfl⟩
      have Hq2 := Lib.hid hq2
      clear hq2
      have hqb : q ≤ 9223372030926249001 := by rw [← Hq2.out]; omega
      by_cases h1 : (n : Int) < (q : Int)
      · have hy1 : 1 ≤ y := by
          rcases Nat.eq_zero_or_pos y with h | h
          · have := Hq2.out; rw [h] at this; omega
          · exact h
        have hsub : (y : Int) - 1 = ((y - 1 : Nat) : Int) := by omega
        clear hsq
        go_wp2_with fail
        exact ⟨⟨y - 1, rfl, by omega, trivial⟩, by simp [intOf]; omega⟩
      · have Hle : Hid (y * y ≤ n) := Lib.hid (by rw [Hq2.out]; omega)
        clear hsq
        go_wp2_with fail
        go_loopw [3] (fun r wr => ∃ z : Nat, r = .int .i64 (z : Int) ∧ z ≤ 3037000499 ∧ z * z ≤ n ∧ w = wr) (fun r _ => 3037000499 - (intOf r).toNat)
        case atStart => exact ⟨y, rfl, hy, Hle.out, rfl⟩
        case round =>
          obtain ⟨z, rfl, hz, hzn, rfl⟩ := hrel
          have Hzn := Lib.hid hzn
          clear hzn
          by_cases h2 : z < 3037000499
          · have l2 : (z : Int) < 3037000499 := by omega
            have hsq : (z + 1) * (z + 1) ≤ 3037000499 * 3037000499 := Nat.mul_le_mul h2 h2
            obtain ⟨p, hp, hp2⟩ : ∃ p : Nat, ((z : Int) + 1) * ((z : Int) + 1) = (p : Int) ∧ (z + 1) * (z + 1) = p := ⟨(z + 1) * (z + 1), by push_cast; rfl, rfl⟩
            have Hp2 := Lib.hid hp2
            clear hp2
            have hpb : p ≤ 9223372030926249001 := by rw [← Hp2.out]; omega
            clear hsq
            by_cases h3 : (p : Int) ≤ (n : Int)
            · go_wp2_with fail
              exact ⟨⟨z + 1, by congr 1, by omega, by rw [Hp2.out]; omega, trivial⟩, by simp [intOf]; omega⟩
            · have He : Hid (Sp.isq n = z) := Lib.hid (Sp.isq_eq Hzn.out (by rw [Hp2.out]; omega))
              go_wp2_with fail
              go_ret
              exact ⟨by rw [He.out]; rfl, rfl⟩
          · have l2 : ¬ (z : Int) < 3037000499 := by omega
            have He : Hid (Sp.isq n = z) := Lib.hid (Sp.isq_eq Hzn.out (by have := Nat.mul_le_mul (show 3037000500 ≤ z + 1 by omega) (show 3037000500 ≤ z + 1 by omega); omega))
            go_wp2_with fail
            go_ret
            exact ⟨by rw [He.out]; rfl, rfl⟩
  · go_wp2_with fail
    go_loopw [3] (fun r wr => ∃ x : Nat, r = .int .i64 (x : Int) ∧ x ≤ 3037000499 ∧ w = wr) (fun r _ => (intOf r).toNat)
    case atStart => exact ⟨3037000499, rfl, by omega, rfl⟩
    case round =>
      obtain ⟨y, rfl, hy, rfl⟩ := hrel
      have hsq : y * y ≤ 3037000499 * 3037000499 := Nat.mul_le_mul hy hy
      obtain ⟨q, hq, hq2⟩ : ∃ q : Nat, (y : Int) * (y : Int) = (q : Int) ∧ y * y = q := ⟨y * y, by push_cast; rfl, rfl⟩
      have Hq2 := Lib.hid hq2
      clear hq2
      have hqb : q ≤ 9223372030926249001 := by rw [← Hq2.out]; omega
      by_cases h1 : (n : Int) < (q : Int)
      · have hy1 : 1 ≤ y := by
          rcases Nat.eq_zero_or_pos y with h | h
          · have := Hq2.out; rw [h] at this; omega
          · exact h
        have hsub : (y : Int) - 1 = ((y - 1 : Nat) : Int) := by omega
        clear hsq
        go_wp2_with fail
        exact ⟨⟨y - 1, rfl, by omega, trivial⟩, by simp [intOf]; omega⟩
      · have Hle : Hid (y * y ≤ n) := Lib.hid (by rw [Hq2.out]; omega)
        clear hsq
        go_wp2_with fail
        go_loopw [3] (fun r wr => ∃ z : Nat, r = .int .i64 (z : Int) ∧ z ≤ 3037000499 ∧ z * z ≤ n ∧ w = wr) (fun r _ => 3037000499 - (intOf r).toNat)
        case atStart => exact ⟨y, rfl, hy, Hle.out, rfl⟩
        case round =>
          obtain ⟨z, rfl, hz, hzn, rfl⟩ := hrel
          have Hzn := Lib.hid hzn
          clear hzn
          by_cases h2 : z < 3037000499
          · have l2 : (z : Int) < 3037000499 := by omega
            have hsq : (z + 1) * (z + 1) ≤ 3037000499 * 3037000499 := Nat.mul_le_mul h2 h2
            obtain ⟨p, hp, hp2⟩ : ∃ p : Nat, ((z : Int) + 1) * ((z : Int) + 1) = (p : Int) ∧ (z + 1) * (z + 1) = p := ⟨(z + 1) * (z + 1), by push_cast; rfl, rfl⟩
            have Hp2 := Lib.hid hp2
            clear hp2
            have hpb : p ≤ 9223372030926249001 := by rw [← Hp2.out]; omega
            clear hsq
            by_cases h3 : (p : Int) ≤ (n : Int)
            · go_wp2_with fail
              exact ⟨⟨z + 1, by congr 1, by omega, by rw [Hp2.out]; omega, trivial⟩, by simp [intOf]; omega⟩
            · have He : Hid (Sp.isq n = z) := Lib.hid (Sp.isq_eq Hzn.out (by rw [Hp2.out]; omega))
              go_wp2_with fail
              go_ret
              exact ⟨by rw [He.out]; rfl, rfl⟩
          · have l2 : ¬ (z : Int) < 3037000499 := by omega
            have He : Hid (Sp.isq n = z) := Lib.hid (Sp.isq_eq Hzn.out (by have := Nat.mul_le_mul (show 3037000500 ≤ z + 1 by omega) (show 3037000500 ≤ z + 1 by omega); omega))
            go_wp2_with fail
            go_ret
            exact ⟨by rw [He.out]; rfl, rfl⟩
end Go.Proofs.YtmeoafodcniliaaGreatDoor.C24
