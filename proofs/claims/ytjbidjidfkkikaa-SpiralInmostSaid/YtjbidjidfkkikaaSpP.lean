/- spots are small; Index and Ring at spots; one step -/
import Derived.Test.YtjbidjidfkkikaaSpO
namespace Go.Proofs.Ytjbidjidfkkikaa
open Go.RowKit
set_option linter.unusedSimpArgs false
set_option linter.unusedVariables false
theorem word_lt (s : Bool) (x : Nat) (h : x < 9223372036854775808) : Ieee.double.word s x < 18446744073709551616 := by
  cases s
  · show x < _; omega
  · show (9223372036854775808 + x : Nat) < _ ; omega
theorem fv_lt (v : Int) (h : v.natAbs < 2 ^ 53) : fv v < 18446744073709551616 := by
  obtain ⟨⟨s, hs⟩, _⟩ := Fl.IsI.ofInt v h
  show floatOfInt .f64 v < _
  rw [hs]
  split
  · exact word_lt s 0 (by omega)
  · rename_i h0
    have hl := Fl.log_le v.natAbs (by omega) h
    have h2 := Nat.lt_log2_self (n := v.natAbs)
    refine word_lt _ _ ?_
    have h3 : v.natAbs * 2 ^ (52 - v.natAbs.log2) < 2 ^ 53 := by
      have := Nat.mul_lt_mul_of_pos_right h2 (show 0 < 2 ^ (52 - v.natAbs.log2) from Nat.pow_pos (by omega))
      rw [← Nat.pow_add, show v.natAbs.log2 + 1 + (52 - v.natAbs.log2) = 53 by omega] at this
      exact this
    have h4 : (v.natAbs.log2 + 1022) * 4503599627370496 ≤ 1074 * 4503599627370496 := Nat.mul_le_mul_right _ (by omega)
    omega
theorem Sp.spot_le (i : Nat) (hi : i < 16777216) : ∃ r : Nat, max ((Sp.spot i).1.natAbs : Int) ((Sp.spot i).2.natAbs : Int) = r ∧ r ≤ 2048 ∧ i < (2 * r + 1) * (2 * r + 1) ∧ (r = 0 ∨ (2 * r - 1) * (2 * r - 1) ≤ i) := by
  by_cases h0 : i = 0
  · subst h0; exact ⟨0, by decide, by omega, by omega, Or.inl rfl⟩
  · obtain ⟨r, h1, h2, h3, h4⟩ := Sp.idx_ring (Sp.spot_idx h0)
    refine ⟨r, h1, ?_, h4, Or.inr h3⟩
    rcases Nat.lt_or_ge 2048 r with h | h
    · have := Nat.mul_le_mul (show 4096 ≤ 2 * r - 1 by omega) (show 4096 ≤ 2 * r - 1 by omega); omega
    · exact h
theorem Index_spot (i : Nat) (hi : i < 16777216) (w : World) : Calls Try.prog 17 #[.complex .f64 (fv (Sp.spot i).1) (fv (Sp.spot i).2)] w fun e w' => e = .returned (.tuple #[.int .i64 (i : Int), .bool true]) ∧ w = w' := by
  by_cases h0 : i = 0
  · subst h0
    exact Index_zero (fv 0) (fv 0) (fv_n 0 (by decide)) (fv_n 0 (by decide)) (by decide) (by decide) w
  · obtain ⟨r, h1, h2, _, _⟩ := Sp.spot_le i hi
    have := Index_yes (fv (Sp.spot i).1) (fv (Sp.spot i).2) i _ _ (fv_n _ (by omega)) (fv_n _ (by omega)) (by omega) (by omega) (fv_lt _ (by omega)) (fv_lt _ (by omega)) (Sp.spot_idx h0) w
    rw [if_pos hi, decide_eq_true hi] at this
    exact this
theorem Ring_spot (i r : Nat) (hi : i < 16777216) (hr : max ((Sp.spot i).1.natAbs : Int) ((Sp.spot i).2.natAbs : Int) = r) (hr2 : r ≤ 2048) (w : World) : Calls Try.prog 20 #[.complex .f64 (fv (Sp.spot i).1) (fv (Sp.spot i).2)] w fun e w' => e = .returned (.tuple #[.int .i64 (r : Int), .bool true]) ∧ w = w' := by
  have := Ring_yes (fv (Sp.spot i).1) (fv (Sp.spot i).2) _ _ (fv_n _ (by omega)) (fv_n _ (by omega)) (by omega) (by omega) (fv_lt _ (by omega)) (fv_lt _ (by omega)) w
  rw [hr] at this
  exact this
/-- One step from spot to spot. -/
theorem Sp.step (i : Nat) : ((Sp.spot (i + 1)).1 - (Sp.spot i).1, (Sp.spot (i + 1)).2 - (Sp.spot i).2) = (1, 0) ∨ ((Sp.spot (i + 1)).1 - (Sp.spot i).1, (Sp.spot (i + 1)).2 - (Sp.spot i).2) = (0, 1) ∨
    ((Sp.spot (i + 1)).1 - (Sp.spot i).1, (Sp.spot (i + 1)).2 - (Sp.spot i).2) = (-1, 0) ∨ ((Sp.spot (i + 1)).1 - (Sp.spot i).1, (Sp.spot (i + 1)).2 - (Sp.spot i).2) = (0, -1) := by
  by_cases h0 : i = 0
  · subst h0; decide
  obtain ⟨r, s, al, h1, h2, h3, h4, -, -, -⟩ := Sp.spot_parts h0
  rw [Sp.spot_eq h1 h2 h3 h4]
  by_cases ha : al + 1 < 2 * r
  · rw [Sp.spot_eq (i := i + 1) h1 h2 ha (by omega)]
    have hs : s = 0 ∨ s = 1 ∨ s = 2 ∨ s = 3 := by omega
    rcases hs with rfl | rfl | rfl | rfl <;> simp [Sp.tn] <;> omega
  · have hal : al = 2 * r - 1 := by omega
    by_cases hs3 : s < 3
    · have e : 2 * r * (s + 1) = 2 * r * s + 2 * r := by rw [Nat.mul_add, Nat.mul_one]
      rw [Sp.spot_eq (i := i + 1) (side := s + 1) (al := 0) h1 (by omega) (by omega) (by rw [e]; omega)]
      have hs : s = 0 ∨ s = 1 ∨ s = 2 := by omega
      subst hal
      rcases hs with rfl | rfl | rfl <;> simp [Sp.tn] <;> omega
    · obtain rfl : s = 3 := by omega
      have o := Sp.odd_sq r h1
      have n := Sp.next_sq r
      have e : i + 1 = (2 * (r + 1) - 1) * (2 * (r + 1) - 1) + 2 * (r + 1) * 0 + 0 := by
        rw [show 2 * (r + 1) - 1 = 2 * r + 1 by omega]; omega
      rw [Sp.spot_eq (i := i + 1) (r := r + 1) (by omega) (by omega) (by omega) e]
      subst hal
      simp [Sp.tn]; omega
theorem csub (a b c d : Int) (ha : a.natAbs ≤ 16777216) (hb : b.natAbs ≤ 16777216) (hc : c.natAbs ≤ 16777216) (hd : d.natAbs ≤ 16777216) : ∃ re im, cSumBits .sub .f64 (fv a) (fv b) (fv c) (fv d) = some (re, im) ∧ Fl.IsN re (a - c) ∧ Fl.IsN im (b - d) := by
  obtain ⟨re, h1, g1⟩ := Fl.IsN.sub (fv_n a (by omega)) (fv_n c (by omega)) (by omega)
  obtain ⟨im, h2, g2⟩ := Fl.IsN.sub (fv_n b (by omega)) (fv_n d (by omega)) (by omega)
  refine ⟨re, im, ?_, g1.n (by omega), g2.n (by omega)⟩
  unfold cSumBits floatBits
  show (Ieee.double.sub (fv a) (fv c)).bind _ = _
  rw [h1]
  show (Ieee.double.sub (fv b) (fv d)).bind _ = _
  rw [h2]; rfl
theorem ordN {x y : Nat} {u v : Int} (hx : Fl.IsN x u) (hy : Fl.IsN y v) : FloatKind.f64.format.order x y = some (compare u v) := Fl.IsN.order hx hy
end Go.Proofs.Ytjbidjidfkkikaa
