/- Ring, Index of what is no place; pithlaw24.whole -/
import Derived.Test.YtjbidjidfkkikaaSpV
import Derived.BigRegion
namespace Go.Proofs.Ytjbidjidfkkikaa
open Go.RowKit
set_option linter.unusedSimpArgs false
set_option linter.unusedVariables false
theorem Ring_no (x y : Nat) (hx : x < 18446744073709551616) (hy : y < 18446744073709551616) (hn : ¬ Yes x ∨ (Yes x ∧ ¬ Yes y)) (w : World) : Calls Try.prog 20 #[.complex .f64 x y] w fun e w' => e = .returned (.tuple #[.int .i64 0, .bool false]) ∧ ∃ k, w' = w.drewN k := by
  rcases hn with hn | ⟨⟨v, hv1, hv2⟩, hn⟩
  · have H := Lib.hid (whole_no x hx hn)
    clear hn hx hy
    go_enter Try.func20, Try.ntmps20
    go_wp2_with fail
    refine (H.out w).mono ?_
    rintro e w' ⟨rfl, k, rfl⟩
    obtain ⟨w2, hw2⟩ : ∃ w2, w2 = w.drewN k := ⟨_, rfl⟩
    have Hw := Lib.hid hw2
    rw [← hw2]
    clear hw2
    go_wp2_with fail
    go_ret2
    exact ⟨rfl, k, Hw.out⟩
  · have H := Lib.hid (whole_yes x v hv1 hv2 hx); have H' := Lib.hid (whole_no y hy hn)
    clear hn hv1 hv2 hx hy
    go_enter Try.func20, Try.ntmps20
    go_wp2_with fail
    refine (H.out w).mono ?_
    rintro e w' ⟨rfl, rfl⟩
    go_wp2_with fail
    refine (H'.out w).mono ?_
    rintro e w' ⟨rfl, k, rfl⟩
    obtain ⟨w2, hw2⟩ : ∃ w2, w2 = w.drewN k := ⟨_, rfl⟩
    have Hw := Lib.hid hw2
    rw [← hw2]
    clear hw2
    go_wp2_with fail
    go_ret2
    exact ⟨rfl, k, Hw.out⟩
theorem Index_no (x y : Nat) (hx : x < 18446744073709551616) (hy : y < 18446744073709551616) (hn : ¬ Yes x ∨ (Yes x ∧ ¬ Yes y)) (w : World) : Calls Try.prog 17 #[.complex .f64 x y] w fun e w' => e = .returned (.tuple #[.int .i64 0, .bool false]) ∧ ∃ k, w' = w.drewN k := by
  have H := Lib.hid (Ring_no x y hx hy hn)
  clear hn hx hy
  go_enter Try.func17, Try.ntmps17
  go_wp2_with fail
  refine (H.out w).mono ?_
  rintro e w' ⟨rfl, k, rfl⟩
  obtain ⟨w2, hw2⟩ : ∃ w2, w2 = w.drewN k := ⟨_, rfl⟩
  have Hw := Lib.hid hw2
  rw [← hw2]
  clear hw2
  go_wp2_with fail
  go_ret2
  exact ⟨rfl, k, Hw.out⟩
/-- In range: what it is cut to; whether it is that. -/
def InR (x : Nat) (T : Int) (b : Bool) : Prop :=
  (FloatKind.f64.format.order x 14064741636278059008 == some .gt || FloatKind.f64.format.order x 14064741636278059008 == some .eq) = true ∧ (FloatKind.f64.format.order x 4841369599423283200 == some .lt || FloatKind.f64.format.order x 4841369599423283200 == some .eq) = true ∧
  (∀ w, (convert 32 3 (.float .f64 x)).run Try.prog w = .ok (.int .i64 T) w) ∧ (FloatKind.f64.format.order (floatOfInt .f64 T) x == some .eq) = b
def OutR (x : Nat) : Prop :=
  (FloatKind.f64.format.order x 14064741636278059008 == some .gt || FloatKind.f64.format.order x 14064741636278059008 == some .eq) = false ∨ ((FloatKind.f64.format.order x 14064741636278059008 == some .gt || FloatKind.f64.format.order x 14064741636278059008 == some .eq) = true ∧ (FloatKind.f64.format.order x 4841369599423283200 == some .lt || FloatKind.f64.format.order x 4841369599423283200 == some .eq) = false)
theorem inR_yes {x : Nat} {v : Int} (h : Fl.IsN x v) (hv : v.natAbs ≤ 4503599627370496) : InR x v true := by
  refine ⟨?_, ?_, conv_n h (by omega), ?_⟩
  · rw [ordN h Fl.lo_n]
    rcases Int.lt_or_le (-4503599627370496) v with h1 | h1
    · rw [Fl.cmp_gt h1]; rfl
    · rw [show v = -4503599627370496 by omega, cmp_eq]; rfl
  · rw [ordN h Fl.hi_n]
    rcases Int.lt_or_le v 4503599627370496 with h1 | h1
    · rw [Fl.cmp_lt h1]; rfl
    · rw [show v = 4503599627370496 by omega, cmp_eq]; rfl
  · show (FloatKind.f64.format.order (fv v) x == some .eq) = true
    rw [ordN (fv_n v (by omega)) h, cmp_eq]; rfl
theorem inR_broken {x : Nat} (h : Fl.Broken x) : ∃ T, InR x T false := by
  obtain ⟨g1, g2, _⟩ := Fl.broken_facts h
  obtain ⟨s, t, ht, _, hi, hall⟩ := Fl.broken_part h
  have hw := Fl.wpart_abs s t
  refine ⟨Fl.wpart s t, ?_, ?_, fun w => ?_, ?_⟩
  · rw [show FloatKind.f64.format.order x 14064741636278059008 = some .gt from g1]; rfl
  · rw [show FloatKind.f64.format.order x 4841369599423283200 = some .lt from g2]; rfl
  · refine conv_fi x _ ?_ w
    unfold floatToIntVal
    rw [show (FloatKind.f64.decode x).toInt .zero = some (Fl.wpart s t) from hi]
    rw [show IntKind.i64.min = -9223372036854775808 from rfl, show IntKind.i64.max = 9223372036854775807 from rfl]
    simp only
    rw [if_pos (by omega)]
  · obtain ⟨o, o', _, _, g3, g4⟩ := hall _ (fv_n (Fl.wpart s t) (by omega))
    rw [show FloatKind.f64.format.order (floatOfInt .f64 (Fl.wpart s t)) x = some o' from g3]
    rw [beq_eq_false_iff_ne]
    intro h; injection h with h; exact g4 h
theorem outR_out {x : Nat} (h : Fl.Out x) : OutR x := by
  rcases h with h | h | ⟨h, h'⟩
  · left; rw [show FloatKind.f64.format.order x 14064741636278059008 = none from h]; rfl
  · left; rw [show FloatKind.f64.format.order x 14064741636278059008 = some .lt from h]; rfl
  · right; rw [show FloatKind.f64.format.order x 14064741636278059008 = some .gt from h, show FloatKind.f64.format.order x 4841369599423283200 = some .gt from h']; exact ⟨rfl, rfl⟩
/-- How it stands to the statement's tests. -/
theorem rangeOf (x : Nat) (hx : x < 18446744073709551616) : (∃ v, Fl.IsN x v ∧ v.natAbs ≤ 4503599627370496 ∧ InR x v true) ∨ (¬ Yes x ∧ ((∃ T, InR x T false) ∨ OutR x)) := by
  by_cases hy : Yes x
  · obtain ⟨v, h1, h2⟩ := hy
    exact Or.inl ⟨v, h1, h2, inR_yes h1 h2⟩
  · refine Or.inr ⟨hy, ?_⟩
    rcases Fl.stands x hx with h | h | ⟨v, h, h1, h2⟩ | h | ⟨s, h⟩ | ⟨s, f, h⟩
    · exact absurd h hy
    · exact Or.inl (inR_broken h)
    · exact Or.inr (outR_out (Fl.out_far h h1))
    · exact Or.inr (outR_out (Fl.out_big h))
    · exact Or.inr (outR_out (Fl.out_inf h))
    · exact Or.inr (outR_out (Fl.out_nan h))
end Go.Proofs.Ytjbidjidfkkikaa
