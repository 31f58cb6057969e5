/- How a double stands: a whole number, broken, too great, infinite, none: plain laws of the format, no program in sight -/
import Derived.Test.YtjbidjidfkkikaaFlN
namespace Go.Proofs.Ytjbidjidfkkikaa
set_option linter.unusedSimpArgs false
set_option linter.unusedVariables false
set_option exponentiation.threshold 2000
namespace Fl
open Ieee
/-- A number with a fraction, below 2^52. -/
def Broken (x : Nat) : Prop := ∃ (s : Bool) (k m : Nat), double.read x = .number s m (-(k : Int)) ∧ k ≤ 1074 ∧ m < 2 ^ 53 ∧ 1 ≤ k ∧ ¬ m = m / 2 ^ k * 2 ^ k
/-- A number of 2^53 and more. -/
def Big (x : Nat) : Prop := ∃ s m e, double.read x = .number s m e ∧ 0 < e ∧ 4503599627370496 ≤ m
/-- The whole part, and its sign. -/
def wpart (s : Bool) (t : Nat) : Int := if s then -(t : Int) else t
theorem wpart_abs (s : Bool) (t : Nat) : (wpart s t).natAbs = t := by unfold wpart; cases s <;> simp
theorem wpart_sign (s : Bool) (t : Nat) (h : wpart s t ≠ 0) : s = decide (wpart s t < 0) := by
  unfold wpart at *
  cases s
  · rw [if_neg (by decide)] at *; exact (decide_eq_false (by omega)).symm
  · rw [if_pos rfl] at *; exact (decide_eq_true (by omega)).symm
theorem stands (x : Nat) (hx : x < 18446744073709551616) : (∃ v : Int, IsN x v ∧ v.natAbs ≤ 4503599627370496) ∨ Broken x ∨ (∃ v : Int, IsN x v ∧ 4503599627370496 < v.natAbs ∧ v.natAbs < 2 ^ 53) ∨ Big x ∨ (∃ s, double.read x = .infinity s) ∨ (∃ s f, double.read x = .nan s f) := by
  cases hr : double.read x with
  | infinity s => exact Or.inr (Or.inr (Or.inr (Or.inr (Or.inl ⟨s, rfl⟩))))
  | nan s f => exact Or.inr (Or.inr (Or.inr (Or.inr (Or.inr ⟨s, f, rfl⟩))))
  | number s m e =>
    obtain ⟨r, hw, hR⟩ := read_parts hx hr
    have hp := hR.place
    have hm : m < 2 ^ 53 := by rcases hR with ⟨h1, h2, h3⟩ | ⟨h1, h2, h3, h4⟩ <;> omega
    by_cases he : 0 < e
    · refine Or.inr (Or.inr (Or.inr (Or.inl ⟨s, m, e, hr, he, ?_⟩)))
      rcases hR with ⟨h1, h2, h3⟩ | ⟨h1, h2, h3, h4⟩ <;> omega
    · obtain ⟨k, rfl⟩ : ∃ k : Nat, e = -(k : Int) := ⟨(-e).toNat, by omega⟩
      by_cases hd : m = m / 2 ^ k * 2 ^ k
      · obtain ⟨v, hv1, hv2⟩ : ∃ v : Int, v.natAbs = m / 2 ^ k ∧ (v ≠ 0 → s = decide (v < 0)) := ⟨wpart s (m / 2 ^ k), wpart_abs _ _, wpart_sign _ _⟩
        have hN : IsN x v := ⟨s, k, by rw [hv1, ← hd]; exact hr, hv2, by omega⟩
        have hle : m / 2 ^ k ≤ m := Nat.div_le_self _ _
        by_cases hv : v.natAbs ≤ 4503599627370496
        · exact Or.inl ⟨v, hN, hv⟩
        · exact Or.inr (Or.inr (Or.inl ⟨v, hN, by omega, by omega⟩))
      · refine Or.inr (Or.inl ⟨s, k, m, hr, by omega, hm, ?_, hd⟩)
        rcases Nat.eq_zero_or_pos k with h | h
        · subst h; simp at hd
        · exact h
theorem cut_zero_div (s : Bool) (m k : Nat) : Toward.zero.cut s m k = m / 2 ^ k := by
  unfold Toward.cut
  dsimp only
  rw [Nat.shiftLeft_eq, Nat.one_mul]
  show m / 2 ^ min k (m.log2 + 2) + 0 = _
  rw [Nat.add_zero]
  rcases Nat.le_total k (m.log2 + 2) with h | h
  · rw [Nat.min_eq_left h]
  · rw [Nat.min_eq_right h]
    have h1 := Nat.lt_log2_self (n := m)
    have h2 : 2 ^ (m.log2 + 1) ≤ 2 ^ (m.log2 + 2) := Nat.pow_le_pow_right (by omega) (by omega)
    have h3 : 2 ^ (m.log2 + 2) ≤ 2 ^ k := Nat.pow_le_pow_right (by omega) h
    rw [Nat.div_eq_of_lt (by omega), Nat.div_eq_of_lt (by omega)]
theorem signed_w (s : Bool) (m j : Nat) : signed s m j = wpart s m * ((2 ^ j : Nat) : Int) := by
  have := signed_eq s (wpart s m) 0 j (wpart_sign s m)
  rw [wpart_abs, Nat.pow_zero, Nat.mul_one, Nat.zero_add] at this
  exact this
/-- Order of a datum with a whole number. -/
theorem order_num {x y : Nat} {s : Bool} {m k : Nat} {u : Int} (hx : double.read x = .number s m (-(k : Int))) (hy : IsN y u) : double.order x y = some (compare (wpart s m) (u * ((2 ^ k : Nat) : Int))) := by
  obtain ⟨t, j, h3, h4, _⟩ := hy
  unfold Format.order Datum.order
  rw [hx, h3]
  dsimp only
  rw [signed_w, signed_eq _ _ _ _ h4]
  have e1 : (-(k : Int) - min (-(k : Int)) (-(j : Int))).toNat = max k j - k := by omega
  have e2 : j + (-(j : Int) - min (-(k : Int)) (-(j : Int))).toNat = k + (max k j - k) := by omega
  rw [e1, e2, Nat.pow_add, Int.natCast_mul, ← Int.mul_assoc]
  have hg : 0 < ((2 ^ (max k j - k) : Nat) : Int) := by have := Nat.two_pow_pos (max k j - k); omega
  generalize ((2 ^ (max k j - k) : Nat) : Int) = g at *
  rw [cmp_mul _ _ _ hg]
theorem cmp_lt {a b : Int} (h : a < b) : compare a b = Ordering.lt := by
  rw [show compare a b = compareOfLessAndEq a b from rfl]; unfold compareOfLessAndEq; rw [if_pos h]
theorem cmp_gt {a b : Int} (h : b < a) : compare a b = Ordering.gt := by
  rw [show compare a b = compareOfLessAndEq a b from rfl]; unfold compareOfLessAndEq; rw [if_neg (by omega), if_neg (by omega)]
theorem hi_n : IsN 4841369599423283200 4503599627370496 := ⟨false, 0, by decide, by decide, by decide⟩
theorem lo_n : IsN 14064741636278059008 (-4503599627370496) := ⟨true, 0, by decide, by decide, by decide⟩
theorem hi_r : double.read 4841369599423283200 = .number false 4503599627370496 0 := by decide
theorem lo_r : double.read 14064741636278059008 = .number true 4503599627370496 0 := by decide
/-- What a broken number's tests answer. -/
theorem broken_facts {x : Nat} (h : Broken x) : double.order x 14064741636278059008 = some .gt ∧ double.order x 4841369599423283200 = some .lt ∧
    ∃ T : Int, (double.read x).integral .zero = .number (decide (T < 0)) T.natAbs 0 ∨ True := by
  obtain ⟨s, k, m, hr, hk, hm, hk1, hd⟩ := h
  have h2 : 2 ≤ 2 ^ k := by
    have := Nat.pow_le_pow_right (show 1 ≤ 2 by omega) hk1; simpa using this
  have hw := wpart_abs s m
  rw [order_num hr lo_n, order_num hr hi_n]
  refine ⟨congrArg some (cmp_gt ?_), congrArg some (cmp_lt ?_), 0, Or.inr trivial⟩
  · rw [Int.neg_mul]
    have : (4503599627370496 : Int) * 2 ≤ 4503599627370496 * ((2 ^ k : Nat) : Int) := Int.mul_le_mul_of_nonneg_left (by omega) (by decide)
    omega
  · have : (4503599627370496 : Int) * 2 ≤ 4503599627370496 * ((2 ^ k : Nat) : Int) := Int.mul_le_mul_of_nonneg_left (by omega) (by decide)
    omega
/-- Its whole part: below 2^53, and another number than it is. -/
theorem broken_part {x : Nat} (h : Broken x) : ∃ (s : Bool) (t : Nat), t < 2 ^ 53 ∧ (double.read x).integral .zero = .number s t 0 ∧ (double.read x).toInt .zero = some (wpart s t) ∧
    ∀ y, IsN y (wpart s t) → ∃ o o', double.order x y = some o ∧ o ≠ .eq ∧ double.order y x = some o' ∧ o' ≠ .eq := by
  obtain ⟨s, k, m, hr, hk, hm, hk1, hd⟩ := h
  have hle : m / 2 ^ k ≤ m := Nat.div_le_self _ _
  have hi : (double.read x).integral .zero = .number s (m / 2 ^ k) 0 := by
    rw [hr]; unfold Datum.integral; dsimp only
    rw [show (-(k : Int)).toNat = 0 by omega, show (-(-(k : Int))).toNat = k by omega, Nat.shiftLeft_zero, cut_zero_div]
  refine ⟨s, m / 2 ^ k, by omega, hi, ?_, fun y hy => ?_⟩
  · unfold Datum.toInt; rw [hi]
    dsimp only
    rw [signed_w]; simp
  · have hne : wpart s m ≠ wpart s (m / 2 ^ k) * ((2 ^ k : Nat) : Int) := by
      intro h
      apply hd
      have := congrArg Int.natAbs h
      rw [wpart_abs, Int.natAbs_mul, wpart_abs, Int.natAbs_natCast] at this
      exact this
    have hxy := order_num hr hy
    have hyx : double.order y x = some (compare (wpart s (m / 2 ^ k) * ((2 ^ k : Nat) : Int)) (wpart s m)) := by
      obtain ⟨t, j, h3, h4, _⟩ := hy
      unfold Format.order Datum.order
      rw [hr, h3]
      dsimp only
      rw [signed_eq _ _ _ _ h4, signed_w s m]
      have e1 : (-(k : Int) - min (-(j : Int)) (-(k : Int))).toNat = max k j - k := by omega
      have e2 : j + (-(j : Int) - min (-(j : Int)) (-(k : Int))).toNat = k + (max k j - k) := by omega
      rw [e1, e2, Nat.pow_add, Int.natCast_mul, ← Int.mul_assoc]
      have hg : 0 < ((2 ^ (max k j - k) : Nat) : Int) := by have := Nat.two_pow_pos (max k j - k); omega
      generalize ((2 ^ (max k j - k) : Nat) : Int) = g at *
      rw [cmp_mul _ _ _ hg]
    refine ⟨_, _, hxy, ?_, hyx, ?_⟩
    · rw [ne_eq, Int.compare_eq_eq]; exact hne
    · rw [ne_eq, Int.compare_eq_eq]; exact fun h => hne h.symm
/-- Outside of what is looked at. -/
def Out (x : Nat) : Prop := double.order x 14064741636278059008 = none ∨ double.order x 14064741636278059008 = some .lt ∨ (double.order x 14064741636278059008 = some .gt ∧ double.order x 4841369599423283200 = some .gt)
theorem out_far {x : Nat} {v : Int} (h : IsN x v) (hv : 4503599627370496 < v.natAbs) : Out x := by
  rcases Int.lt_or_le v 0 with h0 | h0
  · right; left; rw [h.order lo_n, cmp_lt (show v < -4503599627370496 by omega)]
  · right; right; rw [h.order lo_n, h.order hi_n, cmp_gt (show -4503599627370496 < v by omega), cmp_gt (show 4503599627370496 < v by omega)]; exact ⟨rfl, rfl⟩
theorem big_pow {m : Nat} {e : Int} (he : 0 < e) (hm : 4503599627370496 ≤ m) : 4503599627370496 < m * 2 ^ e.toNat := by
  have h1 : 2 ^ 1 ≤ 2 ^ e.toNat := Nat.pow_le_pow_right (by omega) (by omega)
  have := Nat.mul_le_mul hm h1
  omega
theorem out_big {x : Nat} (h : Big x) : Out x := by
  obtain ⟨s, m, e, hr, he, hm⟩ := h
  have hb := big_pow he hm
  have hw := wpart_abs s m
  unfold Out Format.order Datum.order
  rw [hr, lo_r, hi_r]
  dsimp only
  rw [show min e 0 = 0 by omega, show (e - 0).toNat = e.toNat by omega, show ((0 : Int) - 0).toNat = 0 by rfl]
  unfold signed
  simp only [Nat.shiftLeft_eq, Nat.pow_zero, Nat.mul_one]
  generalize m * 2 ^ e.toNat = q at *
  cases s
  · right; right
    simp only [if_neg (show ¬ (false = true) by decide), if_pos rfl]
    exact ⟨congrArg some (cmp_gt (by omega)), congrArg some (cmp_gt (by omega))⟩
  · right; left
    simp only [↓reduceIte]
    exact congrArg some (cmp_lt (by omega))
theorem out_inf {x : Nat} {s : Bool} (h : double.read x = .infinity s) : Out x := by
  unfold Out Format.order
  rw [h, lo_r, hi_r]
  cases s
  · right; right; exact ⟨rfl, rfl⟩
  · right; left; rfl
theorem out_nan {x f : Nat} {s : Bool} (h : double.read x = .nan s f) : Out x := by
  unfold Out Format.order
  rw [h]
  left; rfl
theorem nan_no {x f : Nat} {s : Bool} (h : double.read x = .nan s f) (y : Nat) : double.order x y = none := by
  unfold Format.order; rw [h]; rfl
/-- A great number's whole part is the number; without its sign it is too far. -/
theorem big_facts {x : Nat} (hx : x < 18446744073709551616) (h : Big x) : double.write ((double.read x).integral .zero) = x ∧ (∀ s f, double.read x ≠ .nan s f) ∧ double.order x x = some .eq ∧ double.order (x % 9223372036854775808) 4841369599423283200 = some .gt := by
  obtain ⟨s, m, e, hr, he, hm⟩ := h
  obtain ⟨r, hw, hR⟩ := read_parts hx hr
  have hb := big_pow he hm
  have hxr : x % 9223372036854775808 = r := by rw [hw, word_eq]; have := hR.lt; split <;> omega
  have hrr : double.read r = .number false m e := by
    have := read_word (s := false) hR
    rw [word_eq, if_neg (by decide)] at this; exact this
  refine ⟨?_, ?_, order_self_fin ⟨s, m, e, hr⟩, ?_⟩
  · rw [hr]; unfold Datum.integral; dsimp only
    rw [show (-e).toNat = 0 by omega, cut_zero, Nat.shiftLeft_eq]
    show double.nearest s (m * 2 ^ e.toNat) 0 = x
    have := near_back s hR e.toNat (by omega)
    rw [show e - (e.toNat : Int) = 0 by omega] at this
    rw [this, hw]
  · intro s f; rw [hr]; intro h; cases h
  · rw [hxr]
    unfold Format.order Datum.order
    rw [hrr, hi_r]
    dsimp only
    rw [show min e 0 = 0 by omega, show (e - 0).toNat = e.toNat by omega, show ((0 : Int) - 0).toNat = 0 by rfl]
    unfold signed
    simp only [Nat.shiftLeft_eq, Nat.pow_zero, Nat.mul_one]
    generalize m * 2 ^ e.toNat = q at *
    exact congrArg some (cmp_gt (by simp; omega))
theorem inf_facts {x : Nat} {s : Bool} (hx : x < 18446744073709551616) (h : double.read x = .infinity s) : double.write ((double.read x).integral .zero) = x ∧ double.order x x = some .eq ∧ double.order (x % 9223372036854775808) 4841369599423283200 = some .gt := by
  have hr := h
  rw [read_eq] at h
  have hx2 : x % 9223372036854775808 = 9218868437227405312 ∧ (x / 9223372036854775808 % 2 == 1) = s := by
    split at h
    · cases h
    · split at h
      · cases h
      · split at h
        · rename_i h3; injection h with h; exact ⟨h3, h⟩
        · cases h
  obtain ⟨h1, h2⟩ := hx2
  refine ⟨?_, ?_, ?_⟩
  · rw [hr]; show double.word s double.infRung = x
    rw [word_eq, ir]
    cases s
    · rw [if_neg (by decide)]; have : ¬ x / 9223372036854775808 % 2 = 1 := by simpa using h2
      omega
    · rw [if_pos rfl]; rw [beq_iff_eq] at h2; omega
  · unfold Format.order; rw [hr]; cases s <;> rfl
  · rw [h1]; decide
end Fl
end Go.Proofs.Ytjbidjidfkkikaa
