/- Whole numbers as doubles; the square root: plain laws of the format, no program in sight -/
import Derived.Laws.FloatArith
import Derived.Laws.ComplexArith
namespace Go.Proofs.YtmeoafodcniliaaGreatDoor
set_option linter.unusedSimpArgs false
set_option linter.unusedVariables false
set_option exponentiation.threshold 2000
namespace Fl
open Ieee
theorem sw : double.signWeight = 9223372036854775808 := rfl
theorem bn : double.binade = 4503599627370496 := rfl
theorem ir : double.infRung = 9218868437227405312 := rfl
theorem lp : double.leastPlace = -1074 := rfl
def w (s : Bool) (a : Nat) : Nat := double.word s ((Nat.log2 a + 1022) * 4503599627370496 + a * 2 ^ (52 - Nat.log2 a))
theorem log_mul (a k : Nat) (h : 0 < a) : (a * 2 ^ k).log2 = a.log2 + k := by
  rw [Nat.log2_eq_iff (by have := Nat.two_pow_pos k; exact Nat.ne_of_gt (Nat.mul_pos h this))]
  have h1 := Nat.log2_self_le (n := a) (by omega)
  have h2 := Nat.lt_log2_self (n := a)
  constructor
  · rw [Nat.pow_add]; exact Nat.mul_le_mul_right _ h1
  · rw [show a.log2 + k + 1 = (a.log2 + 1) + k by omega, Nat.pow_add]; exact Nat.mul_lt_mul_of_pos_right h2 (Nat.two_pow_pos k)
theorem log_le (a : Nat) (h0 : 0 < a) (h : a < 2 ^ 53) : a.log2 ≤ 52 := by
  have := (Nat.log2_lt (k := 53) (by omega : a ≠ 0)).2 h
  omega
theorem cut_zero (t : Toward) (s : Bool) (n : Nat) : t.cut s n 0 = n := by
  unfold Toward.cut
  cases t <;> simp [Nat.mod_one]
theorem cut_exact (t : Toward) (s : Bool) (b d : Nat) (h : 0 < b) : t.cut s (b * 2 ^ d) d = b := by
  have hl := log_mul b d h
  have hd : 0 < 2 ^ d := Nat.two_pow_pos d
  unfold Toward.cut
  rw [hl, Nat.min_eq_left (by omega), Nat.shiftLeft_eq, Nat.one_mul]
  dsimp only
  rw [Nat.mul_div_cancel _ hd, Nat.mul_mod_left]
  generalize 2 ^ d = g at *
  cases t <;> simp <;> omega
theorem nearest_whole (s : Bool) (a k : Nat) (h0 : 0 < a) (h : a < 2 ^ 53) : double.nearest s (a * 2 ^ k) (-(k : Int)) = w s a := by
  have hk : a * 2 ^ k ≠ 0 := Nat.ne_of_gt (Nat.mul_pos h0 (Nat.two_pow_pos k))
  have hl := log_le a h0 h
  unfold Format.nearest
  rw [if_neg hk, log_mul a k h0]
  dsimp only
  have hlast : max (-(k : Int) + ((a.log2 + k : Nat) : Int) - (double.fractionBits : Nat)) double.leastPlace = (a.log2 : Int) - 52 := by
    rw [lp, show ((double.fractionBits : Nat) : Int) = 52 from rfl]; omega
  rw [hlast, lp, bn, ir]
  have hkept : Toward.even.cut s ((a * 2 ^ k) <<< (-(k : Int) - ((a.log2 : Int) - 52)).toNat) ((a.log2 : Int) - 52 - -(k : Int)).toNat = a * 2 ^ (52 - a.log2) := by
    rcases Nat.le_total k (52 - a.log2) with hc | hc
    · rw [show (-(k : Int) - ((a.log2 : Int) - 52)).toNat = 52 - a.log2 - k by omega, show ((a.log2 : Int) - 52 - -(k : Int)).toNat = 0 by omega, cut_zero, Nat.shiftLeft_eq, Nat.mul_assoc, ← Nat.pow_add]
      congr 2; omega
    · rw [show (-(k : Int) - ((a.log2 : Int) - 52)).toNat = 0 by omega, show ((a.log2 : Int) - 52 - -(k : Int)).toNat = a.log2 + k - 52 by omega, Nat.shiftLeft_zero,
        show a * 2 ^ k = a * 2 ^ (52 - a.log2) * 2 ^ (a.log2 + k - 52) by rw [Nat.mul_assoc, ← Nat.pow_add]; congr 2; omega, cut_exact _ _ _ _ (Nat.mul_pos h0 (Nat.two_pow_pos _))]
  rw [hkept]
  unfold w
  have hb : a * 2 ^ (52 - a.log2) < 2 ^ 53 := by
    have h2 := Nat.lt_log2_self (n := a)
    calc a * 2 ^ (52 - a.log2) < 2 ^ (a.log2 + 1) * 2 ^ (52 - a.log2) := Nat.mul_lt_mul_of_pos_right h2 (Nat.two_pow_pos _)
      _ = 2 ^ 53 := by rw [← Nat.pow_add]; congr 1; omega
  rw [show ((a.log2 : Int) - 52 - -1074).toNat = a.log2 + 1022 by omega, Nat.min_eq_left (by omega)]
theorem read_w (s : Bool) (a : Nat) (h0 : 0 < a) (h : a < 2 ^ 53) : double.read (w s a) = .number s (a * 2 ^ (52 - a.log2)) (-((52 - a.log2 : Nat) : Int)) := by
  have hl := log_le a h0 h
  have hb : a * 2 ^ (52 - a.log2) < 2 ^ 53 := by
    have h2 := Nat.lt_log2_self (n := a)
    calc a * 2 ^ (52 - a.log2) < 2 ^ (a.log2 + 1) * 2 ^ (52 - a.log2) := Nat.mul_lt_mul_of_pos_right h2 (Nat.two_pow_pos _)
      _ = 2 ^ 53 := by rw [← Nat.pow_add]; congr 1; omega
  have ha : 2 ^ 52 ≤ a * 2 ^ (52 - a.log2) := by
    have h1 := Nat.log2_self_le (n := a) (by omega)
    calc 2 ^ 52 = 2 ^ a.log2 * 2 ^ (52 - a.log2) := by rw [← Nat.pow_add]; congr 1; omega
      _ ≤ a * 2 ^ (52 - a.log2) := Nat.mul_le_mul_right _ h1
  unfold w
  generalize a * 2 ^ (52 - a.log2) = m at *
  have hr : ∀ r : Nat, r = (a.log2 + 1022) * 4503599627370496 + m → (if r < 4503599627370496 then Datum.number s r (-1074) else if r < 9218868437227405312 then Datum.number s (4503599627370496 + r % 4503599627370496) (-1074 + (r / 4503599627370496 - 1 : Nat)) else if r = 9218868437227405312 then .infinity s else .nan s (r - 9218868437227405312)) = .number s m (-((52 - a.log2 : Nat) : Int)) := by
    intro r hr
    rw [if_neg (by omega), if_pos (by omega), show 4503599627370496 + r % 4503599627370496 = m by omega, show (-1074 + (r / 4503599627370496 - 1 : Nat) : Int) = -((52 - a.log2 : Nat) : Int) by omega]
  unfold Format.read Format.word
  rw [sw, bn, ir, lp]
  dsimp only
  cases s with
  | true =>
    rw [if_pos rfl, show ((9223372036854775808 + ((a.log2 + 1022) * 4503599627370496 + m)) / 9223372036854775808 % 2 == 1) = true by rw [beq_iff_eq]; omega]
    exact hr _ (by omega)
  | false =>
    rw [if_neg (show ¬ (false = true) by decide), show (((a.log2 + 1022) * 4503599627370496 + m) / 9223372036854775808 % 2 == 1) = false by rw [beq_eq_false_iff_ne]; omega]
    exact hr _ (by omega)
theorem read_zero (s : Bool) : double.read (double.word s 0) = .number s 0 (-1074) := by cases s <;> decide
/-- b is the whole number v (a zero of either sign). -/
def IsI (b : Nat) (v : Int) : Prop := ∃ s, b = (if v = 0 then double.word s 0 else w (decide (v < 0)) v.natAbs)
/-- b reads as the whole number v. -/
def IsN (b : Nat) (v : Int) : Prop := ∃ (s : Bool) (k : Nat), double.read b = .number s (v.natAbs * 2 ^ k) (-(k : Int)) ∧ (v ≠ 0 → s = decide (v < 0)) ∧ k ≤ 1074
theorem IsI.n {b : Nat} {v : Int} (h : IsI b v) (hv : v.natAbs < 2 ^ 53) : IsN b v := by
  obtain ⟨s, h⟩ := h
  by_cases h0 : v = 0
  · rw [if_pos h0] at h
    refine ⟨s, 1074, ?_, fun h => absurd h0 h, by omega⟩
    subst h0; rw [h, read_zero, Int.natAbs_zero, Nat.zero_mul]; rfl
  · rw [if_neg h0] at h
    refine ⟨decide (v < 0), 52 - v.natAbs.log2, ?_, fun _ => rfl, by omega⟩
    rw [h, read_w _ _ (by omega) hv]
theorem IsI.of_number {s : Bool} {v : Int} {k : Nat} (hv : v.natAbs < 2 ^ 53) (hs : v ≠ 0 → s = decide (v < 0)) : IsI (double.nearest s (v.natAbs * 2 ^ k) (-(k : Int))) v := by
  by_cases h0 : v = 0
  · subst h0
    refine ⟨s, ?_⟩
    rw [if_pos rfl]; simp [Format.nearest]
  · refine ⟨s, ?_⟩
    rw [if_neg h0, nearest_whole _ _ _ (by omega) hv, hs h0]
theorem signed_eq (s : Bool) (v : Int) (k j : Nat) (hs : v ≠ 0 → s = decide (v < 0)) : signed s (v.natAbs * 2 ^ k) j = v * ((2 ^ (k + j) : Nat) : Int) := by
  unfold signed
  rw [Nat.shiftLeft_eq, Nat.mul_assoc, ← Nat.pow_add]
  generalize 2 ^ (k + j) = g
  by_cases h0 : v = 0
  · subst h0; simp
  · rw [hs h0]
    rcases Int.lt_or_gt_of_ne h0 with h | h
    · rw [decide_eq_true h, if_pos rfl, Int.natCast_mul, Int.ofNat_natAbs_of_nonpos (by omega)]; simp [Int.neg_mul]
    · rw [decide_eq_false (by omega), if_neg (by decide), Int.natCast_mul, Int.natAbs_of_nonneg (by omega)]
theorem cmp_mul (x y g : Int) (hg : 0 < g) : compare (x * g) (y * g) = compare x y := by
  show compareOfLessAndEq _ _ = compareOfLessAndEq _ _
  unfold compareOfLessAndEq
  have h1 : x * g < y * g ↔ x < y := ⟨fun h => Int.lt_of_mul_lt_mul_right h (Int.le_of_lt hg), fun h => Int.mul_lt_mul_of_pos_right h hg⟩
  have h2 : x * g = y * g ↔ x = y := ⟨fun h => Int.eq_of_mul_eq_mul_right (by omega) h, fun h => by rw [h]⟩
  simp only [h1, h2]
theorem IsN.order {a b : Nat} {x y : Int} (ha : IsN a x) (hb : IsN b y) : double.order a b = some (compare x y) := by
  obtain ⟨s, k, h1, h2, _⟩ := ha
  obtain ⟨t, j, h3, h4, _⟩ := hb
  unfold Format.order Datum.order
  rw [h1, h3]
  dsimp only
  rw [signed_eq _ _ _ _ h2, signed_eq _ _ _ _ h4]
  have e1 : k + (-(k : Int) - min (-(k : Int)) (-(j : Int))).toNat = max k j := by omega
  have e2 : j + (-(j : Int) - min (-(k : Int)) (-(j : Int))).toNat = max k j := by omega
  rw [e1, e2]
  have hg : 0 < ((2 ^ max k j : Nat) : Int) := by have := Nat.two_pow_pos (max k j); omega
  generalize ((2 ^ max k j : Nat) : Int) = g at *
  rw [cmp_mul _ _ _ hg]
/-- The sum; what sign a zero has. -/
theorem IsI.sum {d e : Datum} {x y : Int} {s t : Bool} {k j : Nat} (h1 : d = .number s (x.natAbs * 2 ^ k) (-(k : Int))) (h2 : e = .number t (y.natAbs * 2 ^ j) (-(j : Int))) (hs : x ≠ 0 → s = decide (x < 0)) (ht : y ≠ 0 → t = decide (y < 0)) (hz : (x + y).natAbs < 2 ^ 53) :
    ∃ r, (d.sum e).map double.write = some r ∧ IsI r (x + y) ∧ (x + y = 0 → r = double.word (s && t) 0) := by
  subst h1 h2
  unfold Datum.sum
  dsimp only
  rw [signed_eq _ _ _ _ hs, signed_eq _ _ _ _ ht]
  have e1 : k + (-(k : Int) - min (-(k : Int)) (-(j : Int))).toNat = max k j := by omega
  have e2 : j + (-(j : Int) - min (-(k : Int)) (-(j : Int))).toNat = max k j := by omega
  have e3 : min (-(k : Int)) (-(j : Int)) = -((max k j : Nat) : Int) := by omega
  rw [e1, e2, e3, ← Int.add_mul, Int.natAbs_mul, Int.natAbs_natCast]
  have hg : 0 < ((2 ^ max k j : Nat) : Int) := by have := Nat.two_pow_pos (max k j); omega
  refine ⟨_, rfl, ?_, ?_⟩
  · refine IsI.of_number hz ?_
    intro h0
    have : (x + y) * ((2 ^ max k j : Nat) : Int) ≠ 0 := Int.mul_ne_zero h0 (by omega)
    rw [if_neg this]
    rw [decide_eq_decide]
    exact ⟨fun h => by
      rcases (by omega : x + y < 0 ∨ 0 ≤ x + y) with h' | h'
      · exact h'
      · have := Int.mul_nonneg h' (Int.le_of_lt hg); omega, fun h => Int.mul_neg_of_neg_of_pos h hg⟩
  · intro h0
    rw [h0]; simp [Format.write, Format.nearest]
theorem IsN.add {a b : Nat} {x y : Int} (ha : IsN a x) (hb : IsN b y) (hz : (x + y).natAbs < 2 ^ 53) : ∃ r, double.add a b = some r ∧ IsI r (x + y) ∧ (x + y = 0 → (a = 0 ∨ b = 0) → r = 0) := by
  obtain ⟨s, k, h1, h2, _⟩ := ha
  obtain ⟨t, j, h4, h5, _⟩ := hb
  obtain ⟨r, g1, g2, g3⟩ := IsI.sum h1 h4 h2 h5 hz
  refine ⟨r, g1, g2, fun h0 hab => ?_⟩
  rw [g3 h0]
  rcases hab with h | h
  · subst h
    have hs : s = false := by have := h1; rw [show double.read 0 = .number false 0 (-1074) by decide] at this; injection this with e; exact e.symm
    subst hs; rfl
  · subst h
    have ht : t = false := by have := h4; rw [show double.read 0 = .number false 0 (-1074) by decide] at this; injection this with e; exact e.symm
    subst ht; rw [Bool.and_false]; rfl
theorem IsN.sub {a b : Nat} {x y : Int} (ha : IsN a x) (hb : IsN b y) (hz : (x - y).natAbs < 2 ^ 53) : ∃ r, double.sub a b = some r ∧ IsI r (x - y) := by
  obtain ⟨s, k, h1, h2, _⟩ := ha
  obtain ⟨t, j, h4, h5, _⟩ := hb
  obtain ⟨r, g1, g2, g3⟩ := IsI.sum (x := x) (y := -y) (e := (double.read b).opposite) (t := !t) (j := j) h1 (by rw [h4, Int.natAbs_neg]; rfl) h2 (by
    intro h0
    rw [h5 (by omega)]
    rcases (by omega : y < 0 ∨ 0 ≤ y) with h | h
    · rw [decide_eq_true h, decide_eq_false (by omega)]; rfl
    · rw [decide_eq_false (by omega), decide_eq_true (by omega)]; rfl) (by rw [← Int.sub_eq_add_neg]; exact hz)
  exact ⟨r, g1, by rw [Int.sub_eq_add_neg]; exact g2⟩
theorem IsN.mul {a b : Nat} {x y : Int} (ha : IsN a x) (hb : IsN b y) (hz : (x * y).natAbs < 2 ^ 53) : ∃ r, double.mul a b = some r ∧ IsI r (x * y) := by
  obtain ⟨s, k, h1, h2, _⟩ := ha
  obtain ⟨t, j, h4, h5, _⟩ := hb
  unfold Format.mul Datum.product
  rw [h1, h4]
  dsimp only [Option.map]
  refine ⟨_, rfl, ?_⟩
  unfold Format.write
  dsimp only
  rw [show x.natAbs * 2 ^ k * (y.natAbs * 2 ^ j) = (x * y).natAbs * 2 ^ (k + j) by rw [Int.natAbs_mul, Nat.pow_add]; simp only [Nat.mul_assoc, Nat.mul_left_comm, Nat.mul_comm], show (-(k : Int) + -(j : Int)) = -((k + j : Nat) : Int) by omega]
  refine IsI.of_number hz ?_
  intro h0
  have hx0 : x ≠ 0 := fun h => h0 (by rw [h, Int.zero_mul])
  have hy0 : y ≠ 0 := fun h => h0 (by rw [h, Int.mul_zero])
  rw [h2 hx0, h5 hy0]
  rcases Int.lt_or_gt_of_ne hx0 with hx' | hx' <;> rcases Int.lt_or_gt_of_ne hy0 with hy' | hy'
  · rw [decide_eq_true hx', decide_eq_true hy', decide_eq_false (by have := Int.mul_pos_of_neg_of_neg hx' hy'; omega)]; rfl
  · rw [decide_eq_true hx', decide_eq_false (by omega), decide_eq_true (Int.mul_neg_of_neg_of_pos hx' hy')]; rfl
  · rw [decide_eq_false (by omega), decide_eq_true hy', decide_eq_true (Int.mul_neg_of_pos_of_neg hx' hy')]; rfl
  · rw [decide_eq_false (by omega), decide_eq_false (by omega), decide_eq_false (by have := Int.mul_pos hx' hy'; omega)]; rfl
theorem IsN.toInt {a : Nat} {x : Int} (ha : IsN a x) : (double.read a).toInt .zero = some x := by
  obtain ⟨s, k, h1, h2, hk⟩ := ha
  unfold Datum.toInt Datum.integral
  rw [h1]
  dsimp only
  rw [show (-(k : Int)).toNat = 0 by omega, show (-(-(k : Int))).toNat = k by omega, Nat.shiftLeft_zero]
  have hc : Toward.zero.cut s (x.natAbs * 2 ^ k) k = x.natAbs := by
    by_cases h0 : x = 0
    · subst h0; unfold Toward.cut; simp
    · exact cut_exact _ _ _ _ (by omega)
  rw [hc]
  have := signed_eq s x 0 0 h2
  simp at this
  rw [this]
theorem IsI.ofInt (x : Int) (hx : x.natAbs < 2 ^ 53) : IsI (floatOfInt .f64 x) x ∧ (x = 0 → floatOfInt .f64 x = 0) := by
  refine ⟨?_, fun h => by subst h; rfl⟩
  have := IsI.of_number (s := decide (x < 0)) (v := x) (k := 0) hx (fun _ => rfl)
  rw [Nat.pow_zero, Nat.mul_one] at this
  exact this
theorem log_mono (a k : Nat) (h : a < 2 ^ k) (h0 : a ≠ 0) : a.log2 < k := (Nat.log2_lt h0).2 h
theorem cut_le (t : Toward) (s : Bool) (n d k : Nat) (h : n < 2 ^ (k + d)) : t.cut s n d ≤ 2 ^ k := by
  have key : n / (1 <<< min d (n.log2 + 2)) < 2 ^ k := by
    rw [Nat.shiftLeft_eq, Nat.one_mul]
    rcases Nat.le_total d (n.log2 + 2) with hd | hd
    · rw [Nat.min_eq_left hd, Nat.div_lt_iff_lt_mul (Nat.two_pow_pos d), ← Nat.pow_add]; exact h
    · rw [Nat.min_eq_right hd, Nat.div_eq_of_lt]
      · exact Nat.two_pow_pos k
      · have := Nat.lt_log2_self (n := n)
        exact Nat.lt_trans this (Nat.pow_lt_pow_right (by omega) (by omega))
  unfold Toward.cut
  dsimp only
  have hb : ∀ b : Bool, b.toNat ≤ 1 := by intro b; cases b <;> decide
  have hf : ∀ b : Bool, n / (1 <<< min d (n.log2 + 2)) + b.toNat ≤ 2 ^ k := by intro b; have := hb b; omega
  exact hf _
theorem cut_zero_le (s : Bool) (n d : Nat) : Toward.zero.cut s n d ≤ n := by
  unfold Toward.cut
  dsimp only
  exact Nat.div_le_self _ _
theorem near_bound (mag : Nat) (place c : Int) (h0 : mag ≠ 0) (h : place + mag.log2 ≤ c) (hc : c ≤ 900) (hc2 : -1000 ≤ c) : ∃ (m : Nat) (e : Int), double.read (double.nearest false mag place) = .number false m e ∧ m < 2 ^ 53 ∧ e ≤ c - 51 := by
  have hlt := Nat.lt_log2_self (n := mag)
  have hm0 : mag < 2 ^ (mag.log2 + 1) := hlt
  obtain ⟨last, hlast⟩ : ∃ last, last = max (place + mag.log2 - (double.fractionBits : Nat)) double.leastPlace := ⟨_, rfl⟩
  have hl1 : place + mag.log2 - 52 ≤ last := by rw [hlast, show ((double.fractionBits : Nat) : Int) = 52 from rfl]; omega
  have hl2 : -1074 ≤ last := by rw [hlast, lp]; omega
  have hl3 : last ≤ max (c - 52) (-1074) := by rw [hlast, lp, show ((double.fractionBits : Nat) : Int) = 52 from rfl]; omega
  have hkept : Toward.even.cut false (mag <<< (place - last).toNat) (last - place).toNat ≤ 2 ^ 53 := by
    refine cut_le _ _ _ _ 53 ?_
    rw [Nat.shiftLeft_eq]
    calc mag * 2 ^ (place - last).toNat < 2 ^ (mag.log2 + 1) * 2 ^ (place - last).toNat := Nat.mul_lt_mul_of_pos_right hlt (Nat.two_pow_pos _)
      _ = 2 ^ (mag.log2 + 1 + (place - last).toNat) := by rw [← Nat.pow_add]
      _ ≤ 2 ^ (53 + (last - place).toNat) := Nat.pow_le_pow_right (by omega) (by omega)
  unfold Format.nearest
  rw [if_neg h0]
  dsimp only
  rw [← hlast]
  generalize Toward.even.cut false (mag <<< (place - last).toNat) (last - place).toNat = kept at *
  rw [lp, bn, ir]
  obtain ⟨r, hr⟩ : ∃ r, r = (last - -1074).toNat * 4503599627370496 + kept := ⟨_, rfl⟩
  rw [← hr]
  have hrb : r ≤ ((last + 1074).toNat + 2) * 4503599627370496 := by omega
  have hrm : min r 9218868437227405312 = r := by omega
  rw [hrm]
  have h63 : r < 9218868437227405312 := by omega
  unfold Format.read Format.word
  rw [sw, bn, ir, lp]
  dsimp only
  rw [if_neg (show ¬ (false = true) by decide), show (r / 9223372036854775808 % 2 == 1) = false by rw [beq_eq_false_iff_ne]; omega, show r % 9223372036854775808 = r by omega]
  by_cases h1 : r < 4503599627370496
  · rw [if_pos h1]; exact ⟨r, -1074, rfl, by omega, by omega⟩
  · rw [if_neg h1, if_pos h63]
    exact ⟨_, _, rfl, by omega, by omega⟩
theorem rootFrom_sq (n : Nat) : ∀ (todo root : Nat), root * root ≤ n → Datum.rootFrom n todo root * Datum.rootFrom n todo root ≤ n
  | 0, root, h => by unfold Datum.rootFrom; exact h
  | todo + 1, root, h => by
    unfold Datum.rootFrom
    dsimp only
    split
    · rename_i h2; exact rootFrom_sq n todo _ h2
    · exact rootFrom_sq n todo _ h
theorem sqrt_number (m : Nat) (e : Int) (x : Nat) (hx : double.read x = .number false m e) (hm : m < 2 ^ 53) (he : e ≤ 12) (he2 : -1074 ≤ e) : ∃ r, double.sqrt x = some r ∧ ∃ (m' : Nat) (e' : Int), double.read r = .number false m' e' ∧ m' < 2 ^ 53 ∧ e' ≤ 0 := by
  unfold Format.sqrt
  rw [hx]
  unfold Datum.root
  dsimp only
  by_cases h0 : m = 0
  · rw [if_pos h0]
    refine ⟨_, rfl, 0, -1074, ?_, by omega, by omega⟩
    subst h0
    unfold Format.write Format.nearest
    dsimp only
    rw [if_pos rfl]; exact read_zero false
  · rw [if_neg h0, if_neg (by decide)]
    try dsimp only
    obtain ⟨more, hmore⟩ : ∃ more, more = 2 * (double.fractionBits + 2) - m.log2 + ((e - ((2 * (double.fractionBits + 2) - m.log2 : Nat) : Int)) % 2).toNat := ⟨_, rfl⟩
    rw [← hmore]
    obtain ⟨n, hn⟩ : ∃ n, n = m <<< more := ⟨_, rfl⟩
    rw [← hn]
    have hsq := rootFrom_sq n (n.log2 / 2 + 1) 0 (by omega)
    generalize Datum.rootFrom n (n.log2 / 2 + 1) 0 = wh at *
    refine ⟨_, rfl, ?_⟩
    unfold Format.write
    dsimp only
    have hn2 : n < 2 ^ (53 + more) := by
      rw [hn, Nat.shiftLeft_eq, Nat.pow_add]; exact Nat.mul_lt_mul_of_pos_right hm (Nat.two_pow_pos _)
    have hn0 : n ≠ 0 := by rw [hn, Nat.shiftLeft_eq]; exact Nat.ne_of_gt (Nat.mul_pos (by omega) (Nat.two_pow_pos _))
    have hmore2 : more ≤ 200 := by have : double.fractionBits = 52 := rfl; omega
    have hw : wh < 2 ^ ((53 + more) / 2 + 1) := by
      rcases Nat.lt_or_ge wh (2 ^ ((53 + more) / 2 + 1)) with h | h
      · exact h
      · exfalso
        have h2 : 2 ^ ((53 + more) / 2 + 1) * 2 ^ ((53 + more) / 2 + 1) ≤ wh * wh := Nat.mul_le_mul h h
        rw [← Nat.pow_add] at h2
        have h3 : 2 ^ (53 + more) ≤ 2 ^ ((53 + more) / 2 + 1 + ((53 + more) / 2 + 1)) := Nat.pow_le_pow_right (by omega) (by omega)
        omega
    have hbt : ∀ b : Bool, b.toNat ≤ 1 := by intro b; cases b <;> decide
    have hb := hbt (wh * wh != n)
    have hmag0 : 2 * wh + (wh * wh != n).toNat ≠ 0 := by
      intro h
      have hw0 : wh = 0 := by omega
      subst hw0
      have : (0 * 0 != n) = true := by simp; omega
      rw [this] at h
      simp at h
    generalize (wh * wh != n).toNat = bit at *
    have hlog : (2 * wh + bit).log2 < (53 + more) / 2 + 3 := by
      refine log_mono _ _ ?_ hmag0
      rw [show (53 + more) / 2 + 3 = ((53 + more) / 2 + 1) + 2 by omega, Nat.pow_add]
      omega
    obtain ⟨m', e', g1, g2, g3⟩ := near_bound (2 * wh + bit) ((e - (more : Int)) / 2 - 1) 40 hmag0 (by omega) (by omega) (by omega)
    exact ⟨m', e', g1, g2, by omega⟩
theorem read_place (x : Nat) (s : Bool) (m : Nat) (e : Int) (h : double.read x = .number s m e) : -1074 ≤ e := by
  unfold Format.read at h
  dsimp only at h
  rw [lp] at h
  split at h
  · injection h with _ _ h; omega
  · split at h
    · injection h with _ _ h; omega
    · split at h <;> cases h
/-- The square root of a whole number that is not below nought: a number whose whole part is an int. -/
theorem sqrt_int (n : Int) (h0 : 0 ≤ n) (h1 : n ≤ 9223372036854775807) : ∃ r, double.sqrt (floatOfInt .f64 n) = some r ∧ ∃ v : Int, floatToIntVal .f64 r .i64 = some v ∧ 0 ≤ v ∧ v ≤ 9007199254740992 := by
  have hx : ∃ (m : Nat) (e : Int), double.read (floatOfInt .f64 n) = .number false m e ∧ m < 2 ^ 53 ∧ e ≤ 12 := by
    show ∃ (m : Nat) (e : Int), double.read (double.nearest (decide (n < 0)) n.natAbs 0) = .number false m e ∧ m < 2 ^ 53 ∧ e ≤ 12
    rw [decide_eq_false (by omega)]
    by_cases hn : n.natAbs = 0
    · refine ⟨0, -1074, ?_, by omega, by omega⟩
      unfold Format.nearest; rw [if_pos hn]; exact read_zero false
    · obtain ⟨m, e, g1, g2, g3⟩ := near_bound n.natAbs 0 63 hn (by have := log_mono n.natAbs 63 (by omega) hn; omega) (by omega) (by omega)
      exact ⟨m, e, g1, g2, by omega⟩
  obtain ⟨m, e, g1, g2, g3⟩ := hx
  obtain ⟨r, k1, m', e', k2, k3, k4⟩ := sqrt_number m e _ g1 g2 g3 (read_place _ _ _ _ g1)
  refine ⟨r, k1, ?_⟩
  have hd : FloatKind.f64.decode r = .number false m' e' := k2
  unfold floatToIntVal
  rw [hd]
  unfold Datum.toInt Datum.integral
  dsimp only
  rw [show e'.toNat = 0 by omega, Nat.shiftLeft_zero]
  have hc := cut_zero_le false m' (-e').toNat
  generalize Toward.zero.cut false m' (-e').toNat = v at *
  have hs : signed false v 0 = (v : Int) := by simp [signed]
  rw [hs, if_pos ⟨by show (-9223372036854775808 : Int) ≤ _; omega, by show _ ≤ (9223372036854775807 : Int); omega⟩]
  exact ⟨_, rfl, by omega, by omega⟩
end Fl
end Go.Proofs.YtmeoafodcniliaaGreatDoor
