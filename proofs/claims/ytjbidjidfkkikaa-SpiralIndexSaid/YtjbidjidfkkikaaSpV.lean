/- any doubles: Trunc, whole, Ring, Index of what is no place -/
import Derived.Test.YtjbidjidfkkikaaSpP
import Derived.Test.YtjbidjidfkkikaaFlP
namespace Go.Proofs.Ytjbidjidfkkikaa
open Go.RowKit
set_option linter.unusedSimpArgs false
set_option linter.unusedVariables false
def Yes (x : Nat) : Prop := ∃ v : Int, Fl.IsN x v ∧ v.natAbs ≤ 4503599627370496
theorem trunc_run (x : Nat) (h : ∀ s f, Ieee.double.read x ≠ .nan s f) (w : World) : (callFunc 50 #[.float .f64 x]).run Try.prog w = .ok (.value (.float .f64 (Ieee.double.write ((Ieee.double.read x).integral .zero)))) w := by
  rw [run_callFunc_extern Try.func50 (by kernel_rfl) (by kernel_rfl) (by kernel_rfl) (by kernel_rfl)]
  have : (Extern.MathFloor.toIntegral "math.archTrunc" .zero #[.float .f64 x]).run Try.prog w = .ok (.float .f64 (Ieee.double.write ((Ieee.double.read x).integral .zero))) w := by
    change Sem.run Try.prog (match FloatKind.f64.decode x with
      | .nan s t => (if FloatKind.f64.format.quiet t = t then pure (.float .f64 x) else do
          let kept ← choose (.extern "math.Floor,Ceil,Trunc,RoundToEven.signallingNaN kept" 2)
          pure (.float .f64 (if kept == 1 then x else FloatKind.f64.encode (.nan s (FloatKind.f64.format.quiet t)))))
      | d => (pure (.float .f64 (FloatKind.f64.encode (d.integral .zero))) : Sem Value)) w = _
    have hd : FloatKind.f64.decode x = Ieee.double.read x := rfl
    rw [hd]
    cases hr : Ieee.double.read x with
    | nan s f => exact absurd hr (h s f)
    | number s m e => rfl
    | infinity s => rfl
  change ((Extern.MathFloor.toIntegral "math.archTrunc" .zero #[.float .f64 x]).run Try.prog w).andThen _ = _
  rw [this]; rfl
theorem trunc_nan (x f : Nat) (s : Bool) (h : Ieee.double.read x = .nan s f) : (∀ w, (callFunc 50 #[.float .f64 x]).run Try.prog w = .ok (.value (.float .f64 x)) w) ∨
    ∃ R : World → Nat, ∀ w, (callFunc 50 #[.float .f64 x]).run Try.prog w = .ok (.value (.float .f64 (R w))) w.drew := by
  have hd : FloatKind.f64.decode x = .nan s f := h
  by_cases hq : FloatKind.f64.format.quiet f = f
  · left; intro w
    rw [run_callFunc_extern Try.func50 (by kernel_rfl) (by kernel_rfl) (by kernel_rfl) (by kernel_rfl)]
    have : (Extern.MathFloor.toIntegral "math.archTrunc" .zero #[.float .f64 x]).run Try.prog w = .ok (.float .f64 x) w := by
      change Sem.run Try.prog (match FloatKind.f64.decode x with
        | .nan s t => (if FloatKind.f64.format.quiet t = t then pure (.float .f64 x) else do
            let kept ← choose (.extern "math.Floor,Ceil,Trunc,RoundToEven.signallingNaN kept" 2)
            pure (.float .f64 (if kept == 1 then x else FloatKind.f64.encode (.nan s (FloatKind.f64.format.quiet t)))))
        | d => (pure (.float .f64 (FloatKind.f64.encode (d.integral .zero))) : Sem Value)) w = _
      rw [hd]
      dsimp only
      rw [if_pos hq]; rfl
    change ((Extern.MathFloor.toIntegral "math.archTrunc" .zero #[.float .f64 x]).run Try.prog w).andThen _ = _
    rw [this]; rfl
  · right
    refine ⟨fun w => if ((Question.extern "math.Floor,Ceil,Trunc,RoundToEven.signallingNaN kept" 2).cut (w.tape w.drawn (.extern "math.Floor,Ceil,Trunc,RoundToEven.signallingNaN kept" 2))) == 1 then x else FloatKind.f64.encode (.nan s (FloatKind.f64.format.quiet f)), fun w => ?_⟩
    rw [run_callFunc_extern Try.func50 (by kernel_rfl) (by kernel_rfl) (by kernel_rfl) (by kernel_rfl)]
    have : (Extern.MathFloor.toIntegral "math.archTrunc" .zero #[.float .f64 x]).run Try.prog w = .ok (.float .f64 (if ((Question.extern "math.Floor,Ceil,Trunc,RoundToEven.signallingNaN kept" 2).cut (w.tape w.drawn (.extern "math.Floor,Ceil,Trunc,RoundToEven.signallingNaN kept" 2))) == 1 then x else FloatKind.f64.encode (.nan s (FloatKind.f64.format.quiet f)))) w.drew := by
      change Sem.run Try.prog (match FloatKind.f64.decode x with
        | .nan s t => (if FloatKind.f64.format.quiet t = t then pure (.float .f64 x) else do
            let kept ← choose (.extern "math.Floor,Ceil,Trunc,RoundToEven.signallingNaN kept" 2)
            pure (.float .f64 (if kept == 1 then x else FloatKind.f64.encode (.nan s (FloatKind.f64.format.quiet t)))))
        | d => (pure (.float .f64 (FloatKind.f64.encode (d.integral .zero))) : Sem Value)) w = _
      rw [hd]
      dsimp only
      rw [if_neg hq]
      rfl
    change ((Extern.MathFloor.toIntegral "math.archTrunc" .zero #[.float .f64 x]).run Try.prog w).andThen _ = _
    rw [this]; rfl
theorem Trunc_nan (x f : Nat) (s : Bool) (h : Ieee.double.read x = .nan s f) (w : World) : Calls Try.prog 45 #[.float .f64 x] w fun e w' => ∃ r k, e = .returned (.float .f64 r) ∧ w' = w.drewN k := by
  rcases trunc_nan x f s h with h | ⟨R, h⟩
  · refine (Trunc_calls x x h w).mono ?_
    rintro e w' ⟨rfl, rfl⟩
    exact ⟨x, 0, rfl, rfl⟩
  · go_enter Try.func45, Try.ntmps45
    go_wp2_with fail
    go_ret
    exact ⟨_, 1, rfl, rfl⟩
/-- A first test that fails. -/
theorem whole_first (x r : Nat) (o : Option Ordering) (ho : FloatKind.f64.format.order x r = o) (hne : o ≠ some .eq) (w w1 : World) (HT : Calls Try.prog 45 #[.float .f64 x] w fun e w' => e = .returned (.float .f64 r) ∧ w1 = w') :
    Calls Try.prog 39 #[.float .f64 x] w fun e w' => e = .returned (.bool false) ∧ w' = w1 := by
  have hb : (o == some Ordering.eq) = false := by rw [beq_eq_false_iff_ne]; exact hne
  have H := Lib.hid HT
  clear HT hne
  go_enter Try.func39, Try.ntmps39
  go_wp2_with fail
  refine (H.out).mono ?_
  rintro e w' ⟨rfl, rfl⟩
  go_wp2_with fail
  go_ret
  exact ⟨rfl, rfl⟩
/-- A second test that fails. -/
theorem whole_second (x r : Nat) (hx : x < 18446744073709551616) (ho : FloatKind.f64.format.order x r = some .eq) (ha : FloatKind.f64.format.order (x % 9223372036854775808) 4841369599423283200 = some .gt) (w : World) (HT : Calls Try.prog 45 #[.float .f64 x] w fun e w' => e = .returned (.float .f64 r) ∧ w = w') :
    Calls Try.prog 39 #[.float .f64 x] w fun e w' => e = .returned (.bool false) ∧ w' = w := by
  have H := Lib.hid HT
  have HA := Lib.hid (Abs_calls x hx)
  clear HT hx
  generalize x % 9223372036854775808 = c at *
  go_enter Try.func39, Try.ntmps39
  go_wp2_with fail
  refine (H.out).mono ?_
  rintro e w' ⟨rfl, rfl⟩
  go_wp2_with fail
  refine (HA.out w).mono ?_
  rintro e w' ⟨rfl, rfl⟩
  go_wp2_with fail
  go_ret
  exact ⟨rfl, rfl⟩
theorem whole_no (x : Nat) (hx : x < 18446744073709551616) (hn : ¬ Yes x) (w : World) : Calls Try.prog 39 #[.float .f64 x] w fun e w' => e = .returned (.bool false) ∧ ∃ k, w' = w.drewN k := by
  rcases Fl.stands x hx with h | h | ⟨v, h, h1, h2⟩ | h | ⟨s, h⟩ | ⟨s, f, h⟩
  · exact absurd h hn
  · obtain ⟨s, t, ht, hi, _, hall⟩ := Fl.broken_part h
    have hnn : ∀ s f, Ieee.double.read x ≠ .nan s f := by obtain ⟨a, b, c, hr, _⟩ := h; intro s f; rw [hr]; intro h; cases h
    have hr := trunc_run x hnn
    rw [hi] at hr
    have hI : Fl.IsN (Ieee.double.write (.number s t 0)) (Fl.wpart s t) := by
      have := Fl.IsI.of_number (s := s) (v := Fl.wpart s t) (k := 0) (by rw [Fl.wpart_abs]; exact ht) (Fl.wpart_sign s t)
      rw [Nat.pow_zero, Nat.mul_one, Fl.wpart_abs] at this
      exact this.n (by rw [Fl.wpart_abs]; exact ht)
    obtain ⟨o, o', g1, g2, _⟩ := hall _ hI
    refine (whole_first x _ (some o) g1 (by intro h; injection h with h; exact g2 h) w w (Trunc_calls x _ hr w)).mono ?_
    rintro e w' ⟨rfl, rfl⟩
    exact ⟨rfl, 0, rfl⟩
  · obtain ⟨r, hr, hI⟩ := trunc_n h h2
    have g1 := ordN h hI
    rw [cmp_eq] at g1
    have g2 := ordN (abs_n h) far_n
    rw [Fl.cmp_gt (by omega)] at g2
    refine (whole_second x r hx g1 g2 w (Trunc_calls x _ hr w)).mono ?_
    rintro e w' ⟨rfl, rfl⟩
    exact ⟨rfl, 0, rfl⟩
  · obtain ⟨g0, g1, g2, g3⟩ := Fl.big_facts hx h
    have hr := trunc_run x g1
    rw [g0] at hr
    refine (whole_second x x hx g2 g3 w (Trunc_calls x _ hr w)).mono ?_
    rintro e w' ⟨rfl, rfl⟩
    exact ⟨rfl, 0, rfl⟩
  · obtain ⟨g0, g2, g3⟩ := Fl.inf_facts hx h
    have hr := trunc_run x (by intro a b; rw [h]; intro h; cases h)
    rw [g0] at hr
    refine (whole_second x x hx g2 g3 w (Trunc_calls x _ hr w)).mono ?_
    rintro e w' ⟨rfl, rfl⟩
    exact ⟨rfl, 0, rfl⟩
  · have HT := Lib.hid (Trunc_nan x f s h)
    have hb := Fl.nan_no h
    have hb2 : ∀ y, FloatKind.f64.format.order x y = none := hb
    clear h hn hx hb
    go_enter Try.func39, Try.ntmps39
    go_wp2_with fail
    refine (HT.out w).mono ?_
    rintro e w' ⟨r, k, rfl, rfl⟩
    have hb3 := hb2 r
    obtain ⟨w2, hw2⟩ : ∃ w2, w2 = w.drewN k := ⟨_, rfl⟩
    have Hw := Lib.hid hw2
    rw [← hw2]
    clear hw2
    go_wp2_with fail
    go_ret
    exact ⟨rfl, k, Hw.out⟩
end Go.Proofs.Ytjbidjidfkkikaa
