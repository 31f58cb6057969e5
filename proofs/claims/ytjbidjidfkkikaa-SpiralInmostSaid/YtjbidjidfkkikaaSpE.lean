/- math.Trunc, math.Abs, spiral.whole, Ring: at whole numbers -/
import Derived.Test.YtjbidjidfkkikaaSpD
namespace Go.Proofs.Ytjbidjidfkkikaa
open Go.RowKit
set_option linter.unusedSimpArgs false
set_option linter.unusedVariables false
set_option exponentiation.threshold 2000
theorem ext_bits (b : Nat) (w : World) : (callFunc 47 #[.float .f64 b]).run Try.prog w = .ok (.value (.int .u64 (b : Int))) w := by
  rw [run_callFunc_extern (e := Extern.MathFloatBits.float64bits) Try.func47 (by kernel_rfl) (by kernel_rfl) (by kernel_rfl) (by kernel_rfl)]
  rfl
theorem ext_frombits (b : Nat) (w : World) : (callFunc 46 #[.int .u64 (b : Int)]).run Try.prog w = .ok (.value (.float .f64 b)) w := by
  rw [run_callFunc_extern (e := Extern.MathFloatBits.float64frombits) Try.func46 (by kernel_rfl) (by kernel_rfl) (by kernel_rfl) (by kernel_rfl)]
  rfl
theorem clear_sign (b : Nat) (h : b < 18446744073709551616) : bits .andNot .u64 (b : Int) 9223372036854775808 = ((b % 9223372036854775808 : Nat) : Int) := by
  have := u64_andNot_nat b 9223372036854775808 h (by decide)
  rw [show ((9223372036854775808 : Nat) : Int) = 9223372036854775808 from rfl] at this
  rw [this]
  rw [show 18446744073709551615 - 9223372036854775808 = 2 ^ 63 - 1 by decide, Nat.and_two_pow_sub_one_eq_mod]
theorem read_abs {b : Nat} {s : Bool} {m : Nat} {e : Int} (h : Ieee.double.read b = .number s m e) : Ieee.double.read (b % 9223372036854775808) = .number false m e := by
  unfold Ieee.Format.read at *
  rw [Fl.sw, Fl.bn, Fl.ir, Fl.lp] at *
  dsimp only at *
  rw [Nat.mod_mod, show (b % 9223372036854775808 / 9223372036854775808 % 2 == 1) = false by rw [beq_eq_false_iff_ne]; omega]
  generalize b % 9223372036854775808 = r at *
  split at h
  · rename_i h1; injection h with _ h2 h3; rw [if_pos h1, h2, h3]
  · rename_i h1
    split at h
    · rename_i h4; injection h with _ h2 h3; rw [if_neg h1, if_pos h4, h2, h3]
    · split at h <;> cases h
theorem abs_n {b : Nat} {v : Int} (h : Fl.IsN b v) : Fl.IsN (b % 9223372036854775808) (v.natAbs : Int) := by
  obtain ⟨s, k, h1, _, h3⟩ := h
  exact ⟨false, k, by rw [Int.natAbs_natCast]; exact read_abs h1, fun _ => (decide_eq_false (by omega)).symm, h3⟩
theorem Abs_calls (b : Nat) (h : b < 18446744073709551616) (w : World) : Calls Try.prog 40 #[.float .f64 b] w fun e w' => e = .returned (.float .f64 (b % 9223372036854775808)) ∧ w = w' := by
  have h1 := ext_bits b
  have h2 := ext_frombits (b % 9223372036854775808)
  have h3 := clear_sign b h
  generalize b % 9223372036854775808 = c at *
  go_enter Try.func40, Try.ntmps40
  go_wp2_with fail
  go_ret
  exact ⟨rfl, rfl⟩
/-- Trunc of a whole number. -/
theorem trunc_n {b : Nat} {v : Int} (h : Fl.IsN b v) (hv : v.natAbs < 2 ^ 53) : ∃ r, (∀ w, (callFunc 50 #[.float .f64 b]).run Try.prog w = .ok (.value (.float .f64 r)) w) ∧ Fl.IsN r v := by
  obtain ⟨s, k, h1, h2, h3⟩ := h
  have hc : Ieee.Toward.zero.cut s (v.natAbs * 2 ^ k) k = v.natAbs := by
    by_cases h0 : v = 0
    · subst h0; unfold Ieee.Toward.cut; simp
    · exact Fl.cut_exact _ _ _ _ (by omega)
  have hi : (Ieee.double.read b).integral .zero = .number s v.natAbs 0 := by
    rw [h1]; unfold Ieee.Datum.integral; dsimp only
    rw [show (-(k : Int)).toNat = 0 by omega, show (-(-(k : Int))).toNat = k by omega, Nat.shiftLeft_zero, hc]
  refine ⟨Ieee.double.write (.number s v.natAbs 0), fun w => ?_, ?_⟩
  · rw [run_callFunc_extern Try.func50 (by kernel_rfl) (by kernel_rfl) (by kernel_rfl) (by kernel_rfl)]
    have : (Extern.MathFloor.toIntegral "math.archTrunc" .zero #[.float .f64 b]).run Try.prog w = .ok (.float .f64 (Ieee.double.write (.number s v.natAbs 0))) w := by
      have hd : FloatKind.f64.decode b = .number s (v.natAbs * 2 ^ k) (-(k : Int)) := h1
      rw [← hi]
      change Sem.run Try.prog (match FloatKind.f64.decode b with
        | .nan s t => (if FloatKind.f64.format.quiet t = t then pure (.float .f64 b) else do
            let kept ← choose (.extern "math.Floor,Ceil,Trunc,RoundToEven.signallingNaN kept" 2)
            pure (.float .f64 (if kept == 1 then b else FloatKind.f64.encode (.nan s (FloatKind.f64.format.quiet t)))))
        | d => (pure (.float .f64 (FloatKind.f64.encode (d.integral .zero))) : Sem Value)) w = _
      rw [hd, h1]
      rfl
    change ((Extern.MathFloor.toIntegral "math.archTrunc" .zero #[.float .f64 b]).run Try.prog w).andThen _ = _
    rw [this]; rfl
  · have := Fl.IsI.of_number (s := s) (v := v) (k := 0) hv h2
    rw [Nat.pow_zero, Nat.mul_one] at this
    exact Fl.IsI.n this hv
theorem Trunc_calls (b r : Nat) (h : ∀ w, (callFunc 50 #[.float .f64 b]).run Try.prog w = .ok (.value (.float .f64 r)) w) (w : World) : Calls Try.prog 45 #[.float .f64 b] w fun e w' => e = .returned (.float .f64 r) ∧ w = w' := by
  go_enter Try.func45, Try.ntmps45
  go_wp2_with fail
  go_ret
  exact ⟨rfl, rfl⟩
theorem cmp_le {a b : Int} (h : a ≤ b) : compare a b = Ordering.lt ∨ compare a b = Ordering.eq := by
  rw [show compare a b = compareOfLessAndEq a b from rfl]; unfold compareOfLessAndEq
  by_cases h1 : a < b
  · left; rw [if_pos h1]
  · right; rw [if_neg h1, if_pos (by omega)]
theorem cmp_eq (a : Int) : compare a a = Ordering.eq := by
  rw [show compare a a = compareOfLessAndEq a a from rfl]; unfold compareOfLessAndEq; rw [if_neg (by omega), if_pos rfl]
theorem far_n : Fl.IsN 4841369599423283200 4503599627370496 := ⟨false, 0, by decide, by decide, by decide⟩
theorem whole_yes (b : Nat) (v : Int) (h : Fl.IsN b v) (hv : v.natAbs ≤ 4503599627370496) (hb : b < 18446744073709551616) (w : World) : Calls Try.prog 39 #[.float .f64 b] w fun e w' => e = .returned (.bool true) ∧ w = w' := by
  obtain ⟨r, hr, hn⟩ := trunc_n h (by omega)
  have ho : FloatKind.f64.format.order b r = some .eq := by have := h.order hn; rw [cmp_eq] at this; exact this
  have ha : FloatKind.f64.format.order (b % 9223372036854775808) 4841369599423283200 = some .lt ∨ FloatKind.f64.format.order (b % 9223372036854775808) 4841369599423283200 = some .eq := by
    have := (abs_n h).order far_n
    rcases cmp_le (show (v.natAbs : Int) ≤ 4503599627370496 by omega) with h | h
    · left; rw [h] at this; exact this
    · right; rw [h] at this; exact this
  have HT := Lib.hid (Trunc_calls b r hr); have HA := Lib.hid (Abs_calls b hb)
  clear hr h hn hb hv
  generalize b % 9223372036854775808 = c at *
  go_enter Try.func39, Try.ntmps39
  go_wp2_with fail
  refine (HT.out w).mono ?_
  rintro e w' ⟨rfl, rfl⟩
  go_wp2_with fail
  refine (HA.out w).mono ?_
  rintro e w' ⟨rfl, rfl⟩
  rcases ha with ha | ha
  all_goals go_wp2_with fail
  all_goals go_ret
  all_goals exact ⟨rfl, rfl⟩
theorem max_n {x y : Nat} {u v : Int} (hx : Fl.IsN x u) (hy : Fl.IsN y v) (ts : Array TypeId) (t : TypeId) : ∃ r, (∀ w, (Builtin.max_ ts t #[.float .f64 x, .float .f64 y]).run Try.prog w = .ok (.float .f64 r) w) ∧ Fl.IsN r (max u v) := by
  have ho : FloatKind.f64.format.order x y = some (compare u v) := hx.order hy
  rcases (by omega : u < v ∨ u = v ∨ v < u) with h | h | h
  · rw [show compare u v = Ordering.lt by rw [show compare u v = compareOfLessAndEq u v from rfl]; unfold compareOfLessAndEq; rw [if_pos h]] at ho
    refine ⟨y, fun w => ?_, by rw [show max u v = v by omega]; exact hy⟩
    simp [Builtin.max_, Builtin.max2, ho]
  · subst h
    rw [cmp_eq] at ho
    refine ⟨if (FloatKind.f64.decode x).neg then y else x, fun w => ?_, ?_⟩
    · simp [Builtin.max_, Builtin.max2, ho]
    · rw [show max u u = u by omega]; split <;> assumption
  · rw [show compare u v = Ordering.gt by rw [show compare u v = compareOfLessAndEq u v from rfl]; unfold compareOfLessAndEq; rw [if_neg (by omega), if_neg (by omega)]] at ho
    refine ⟨x, fun w => ?_, by rw [show max u v = u by omega]; exact hx⟩
    simp [Builtin.max_, Builtin.max2, ho]
theorem conv_n {b : Nat} {v : Int} (h : Fl.IsN b v) (hv : v.natAbs < 2 ^ 53) (w : World) : (convert 32 3 (.float .f64 b)).run Try.prog w = .ok (.int .i64 v) w := by
  refine conv_fi b v ?_ w
  unfold floatToIntVal
  rw [show (FloatKind.f64.decode b).toInt .zero = some v from h.toInt]
  rw [show IntKind.i64.min = -9223372036854775808 from rfl, show IntKind.i64.max = 9223372036854775807 from rfl]
  simp only
  rw [if_pos (by omega)]
set_option maxHeartbeats 1000000 in
theorem Ring_yes (x y : Nat) (u v : Int) (hx : Fl.IsN x u) (hy : Fl.IsN y v) (hu : u.natAbs ≤ 4503599627370496) (hv : v.natAbs ≤ 4503599627370496) (bx : x < 18446744073709551616) (bY : y < 18446744073709551616) (w : World) :
    Calls Try.prog 20 #[.complex .f64 x y] w fun e w' => e = .returned (.tuple #[.int .i64 (max (u.natAbs : Int) (v.natAbs : Int)), .bool true]) ∧ w = w' := by
  obtain ⟨r, hr, hn⟩ := max_n (abs_n hx) (abs_n hy) #[32, 32] 32
  have hc := conv_n hn (by omega)
  have HWx := Lib.hid (whole_yes x u hx hu bx); have HWy := Lib.hid (whole_yes y v hy hv bY)
  have HAx := Lib.hid (Abs_calls x bx); have HAy := Lib.hid (Abs_calls y bY)
  clear hx hy hn bx bY
  generalize x % 9223372036854775808 = ax at *
  generalize y % 9223372036854775808 = ay at *
  obtain ⟨m, hm⟩ : ∃ m, max (u.natAbs : Int) (v.natAbs : Int) = m := ⟨_, rfl⟩
  rw [hm] at hc
  rw [hm]
  clear hm hu hv
  go_enter Try.func20, Try.ntmps20
  go_wp2_with fail
  refine (HWx.out w).mono ?_
  rintro e w' ⟨rfl, rfl⟩
  go_wp2_with fail
  refine (HWy.out w).mono ?_
  rintro e w' ⟨rfl, rfl⟩
  go_wp2_with fail
  refine (HAx.out w).mono ?_
  rintro e w' ⟨rfl, rfl⟩
  go_wp2_with fail
  refine (HAy.out w).mono ?_
  rintro e w' ⟨rfl, rfl⟩
  go_wp2_with fail
  go_ret2
  exact ⟨rfl, rfl⟩
end Go.Proofs.Ytjbidjidfkkikaa
