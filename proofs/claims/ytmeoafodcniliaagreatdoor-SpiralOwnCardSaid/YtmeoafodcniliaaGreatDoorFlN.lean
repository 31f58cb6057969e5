/- Finite doubles: the sign turned, a nought added, a number less itself; NaNs: plain laws of the format, no program in sight -/
import Derived.Test.YtmeoafodcniliaaGreatDoorFlM
namespace Go.Proofs.YtmeoafodcniliaaGreatDoor
set_option linter.unusedSimpArgs false
set_option linter.unusedVariables false
set_option exponentiation.threshold 2000
namespace Fl
open Ieee
def Fin (x : Nat) : Prop := ∃ s m e, double.read x = .number s m e
theorem read_eq (b : Nat) : double.read b = (if b % 9223372036854775808 < 4503599627370496 then .number (b / 9223372036854775808 % 2 == 1) (b % 9223372036854775808) (-1074) else if b % 9223372036854775808 < 9218868437227405312 then .number (b / 9223372036854775808 % 2 == 1) (4503599627370496 + b % 9223372036854775808 % 4503599627370496) (-1074 + (b % 9223372036854775808 / 4503599627370496 - 1 : Nat)) else if b % 9223372036854775808 = 9218868437227405312 then .infinity (b / 9223372036854775808 % 2 == 1) else .nan (b / 9223372036854775808 % 2 == 1) (b % 9223372036854775808 - 9218868437227405312)) := by
  unfold Format.read
  rw [sw, bn, ir, lp]
theorem word_eq (s : Bool) (r : Nat) : double.word s r = if s then 9223372036854775808 + r else r := by
  unfold Format.word; rw [sw]
/-- What a magnitude's parts are. -/
def Rung (r m : Nat) (e : Int) : Prop := (r < 4503599627370496 ∧ m = r ∧ e = -1074) ∨ (4503599627370496 ≤ r ∧ r < 9218868437227405312 ∧ m = 4503599627370496 + r % 4503599627370496 ∧ e = -1074 + (r / 4503599627370496 - 1 : Nat))
theorem Rung.lt {r m : Nat} {e : Int} (h : Rung r m e) : r < 9218868437227405312 := by rcases h with ⟨h, _⟩ | ⟨_, h, _⟩ <;> omega
theorem Rung.zero {r m : Nat} {e : Int} (h : Rung r m e) : m = 0 ↔ r = 0 := by rcases h with ⟨h, h1, _⟩ | ⟨h, h1, h2, _⟩ <;> omega
theorem Rung.place {r m : Nat} {e : Int} (h : Rung r m e) : -1074 ≤ e := by rcases h with ⟨h, h1, h2⟩ | ⟨h, h1, h2, h3⟩ <;> omega
theorem read_word {s : Bool} {r m : Nat} {e : Int} (h : Rung r m e) : double.read (double.word s r) = .number s m e := by
  have hl := h.lt
  rw [read_eq, word_eq]
  have key : (if r < 4503599627370496 then Datum.number s r (-1074) else if r < 9218868437227405312 then Datum.number s (4503599627370496 + r % 4503599627370496) (-1074 + (r / 4503599627370496 - 1 : Nat)) else if r = 9218868437227405312 then .infinity s else .nan s (r - 9218868437227405312)) = .number s m e := by
    rcases h with ⟨h1, rfl, rfl⟩ | ⟨h1, h2, rfl, rfl⟩
    · rw [if_pos h1]
    · rw [if_neg (by omega), if_pos h2]
  cases s with
  | true =>
    rw [if_pos rfl, show (9223372036854775808 + r) % 9223372036854775808 = r by omega, show ((9223372036854775808 + r) / 9223372036854775808 % 2 == 1) = true by rw [beq_iff_eq]; omega]
    exact key
  | false =>
    rw [if_neg (show ¬ (false = true) by decide), show r % 9223372036854775808 = r by omega, show (r / 9223372036854775808 % 2 == 1) = false by rw [beq_eq_false_iff_ne]; omega]
    exact key
theorem read_parts {b : Nat} {s : Bool} {m : Nat} {e : Int} (hb : b < 18446744073709551616) (h : double.read b = .number s m e) : ∃ r, b = double.word s r ∧ Rung r m e := by
  rw [read_eq] at h
  refine ⟨b % 9223372036854775808, ?_, ?_⟩
  · have hs : (b / 9223372036854775808 % 2 == 1) = s := by
      split at h
      · injection h
      · split at h
        · injection h
        · split at h <;> cases h
    subst hs
    rw [word_eq]
    split
    · rename_i h1; rw [beq_iff_eq] at h1; omega
    · rename_i h1; have : ¬ b / 9223372036854775808 % 2 = 1 := by simpa using h1
      omega
  · generalize b % 9223372036854775808 = r at *
    split at h
    · rename_i h1; injection h with _ h2 h3; exact Or.inl ⟨h1, h2.symm, h3.symm⟩
    · rename_i h1
      split at h
      · rename_i h2; injection h with _ h3 h4; exact Or.inr ⟨by omega, h2, h3.symm, h4.symm⟩
      · split at h <;> cases h
theorem xor_sign (s : Bool) (r : Nat) (hr : r < 9223372036854775808) : double.word s r ^^^ 9223372036854775808 = double.word (!s) r := by
  have key : ∀ x : Nat, x ^^^ 9223372036854775808 = 9223372036854775808 * (x / 9223372036854775808 ^^^ 1) + x % 9223372036854775808 := by
    intro x
    have h1 := Nat.div_add_mod (x ^^^ 2 ^ 63) (2 ^ 63)
    have h2 : (x ^^^ 2 ^ 63) % 2 ^ 63 = x % 2 ^ 63 := by rw [Nat.xor_mod_two_pow, Nat.mod_self, Nat.xor_zero]
    have h3 : (x ^^^ 2 ^ 63) / 2 ^ 63 = x / 2 ^ 63 ^^^ 1 := by
      rw [← Nat.shiftRight_eq_div_pow, Nat.shiftRight_xor_distrib, Nat.shiftRight_eq_div_pow, Nat.shiftRight_eq_div_pow, Nat.div_self (Nat.two_pow_pos _)]
    rw [h2, h3] at h1
    exact h1.symm
  rw [key, word_eq, word_eq]
  cases s with
  | true =>
    rw [if_pos rfl, if_neg (by decide), show (9223372036854775808 + r) / 9223372036854775808 = 1 by omega, show (9223372036854775808 + r) % 9223372036854775808 = r by omega, show (1 ^^^ 1 : Nat) = 0 by decide]; omega
  | false =>
    rw [if_neg (by decide), if_pos (by decide), show r / 9223372036854775808 = 0 by omega, show r % 9223372036854775808 = r by omega, show (0 ^^^ 1 : Nat) = 1 by decide]
theorem near_back (s : Bool) {r m : Nat} {e : Int} (h : Rung r m e) (j : Nat) (hj : (j : Int) ≤ e + 1074) : double.nearest s (m * 2 ^ j) (e - (j : Int)) = double.word s r := by
  unfold Format.nearest
  by_cases h0 : m = 0
  · rw [h.zero.1 h0, h0, Nat.zero_mul, if_pos rfl]
  have hm : m * 2 ^ j ≠ 0 := Nat.ne_of_gt (Nat.mul_pos (by omega) (Nat.two_pow_pos j))
  rw [if_neg hm, log_mul m j (by omega)]
  dsimp only
  rw [lp, bn, ir, show ((double.fractionBits : Nat) : Int) = 52 from rfl]
  have hm2 : m < 2 ^ 53 := by rcases h with ⟨h1, h2, h3⟩ | ⟨h1, h2, h3, h4⟩ <;> omega
  have hl := log_le m (by omega) hm2
  have hlast : max (e - (j : Int) + ((m.log2 + j : Nat) : Int) - 52) (-1074) = e := by
    rcases h with ⟨h1, h2, h3⟩ | ⟨h1, h2, h3, h4⟩
    · omega
    · have : 52 ≤ m.log2 := (Nat.le_log2 h0).2 (by omega)
      omega
  rw [hlast, show (e - (j : Int) - e).toNat = 0 by omega, show (e - (e - (j : Int))).toNat = j by omega, Nat.shiftLeft_zero, cut_exact _ _ _ _ (by omega)]
  congr 1
  have := h.lt
  rcases h with ⟨h1, h2, h3⟩ | ⟨h1, h2, h3, h4⟩ <;> omega
theorem signed_zero (s : Bool) (k : Nat) : signed s 0 k = 0 := by unfold signed; cases s <;> simp
theorem signed_pos (s : Bool) (m k : Nat) (h : m ≠ 0) : signed s m k ≠ 0 ∧ decide (signed s m k < 0) = s ∧ (signed s m k).natAbs = m * 2 ^ k := by
  unfold signed
  have hp : 0 < m * 2 ^ k := Nat.mul_pos (by omega) (Nat.two_pow_pos k)
  rw [Nat.shiftLeft_eq]
  generalize m * 2 ^ k = q at *
  cases s
  · refine ⟨by simp; omega, ?_, by simp⟩
    rw [if_neg (by decide)]; exact decide_eq_false (by omega)
  · refine ⟨by simp; omega, ?_, by simp⟩
    rw [if_pos rfl]; exact decide_eq_true (by omega)
theorem zero_read : double.read 0 = .number false 0 (-1074) := by decide
/-- A nought added. -/
def can (x : Nat) : Nat := if x % 9223372036854775808 = 0 then 0 else x
theorem add_zero_fin {x : Nat} (hb : x < 18446744073709551616) (h : Fin x) : double.add x 0 = some (can x) := by
  obtain ⟨s, m, e, h⟩ := h
  obtain ⟨r, hr, hR⟩ := read_parts hb h
  have hx : x % 9223372036854775808 = r := by rw [hr, word_eq]; have := hR.lt; split <;> omega
  unfold Format.add
  rw [h, zero_read]
  unfold Datum.sum
  dsimp only
  have hp := hR.place
  rw [show min e (-1074) = -1074 by omega, signed_zero, Int.add_zero]
  unfold can
  rw [hx]
  by_cases h0 : m = 0
  · rw [h0, signed_zero, if_pos (hR.zero.1 h0), if_pos rfl]
    show some (double.nearest (s && false) (Int.natAbs 0) (-1074)) = some 0
    rw [Bool.and_false]; rfl
  · obtain ⟨g1, g2, g3⟩ := signed_pos s m (e - -1074).toNat h0
    rw [if_neg (fun h => h0 (hR.zero.2 h)), if_neg g1, g2, g3]
    show some (double.nearest s (m * 2 ^ (e - -1074).toNat) (-1074)) = some x
    rw [show (-1074 : Int) = e - ((e - -1074).toNat : Int) by omega, show (e - (e - ((e - -1074).toNat : Int))).toNat = (e - -1074).toNat by omega, near_back s hR _ (by omega), hr]
theorem neg_lt {x : Nat} (hb : x < 18446744073709551616) (h : Fin x) : x ^^^ 9223372036854775808 < 18446744073709551616 ∧ Fin (x ^^^ 9223372036854775808) ∧ (x ^^^ 9223372036854775808) % 9223372036854775808 = x % 9223372036854775808 := by
  obtain ⟨s, m, e, h⟩ := h
  obtain ⟨r, hr, hR⟩ := read_parts hb h
  have hl := hR.lt
  rw [hr, xor_sign s r (by omega)]
  refine ⟨?_, ⟨_, _, _, read_word hR⟩, ?_⟩
  · rw [word_eq]; split <;> omega
  · rw [word_eq, word_eq]; split <;> split <;> omega
theorem sub_zero_fin {y : Nat} (hb : y < 18446744073709551616) (h : Fin y) : double.sub 0 y = some (can (y ^^^ 9223372036854775808)) := by
  obtain ⟨s, m, e, h⟩ := h
  obtain ⟨g1, g2, g3⟩ := neg_lt hb ⟨s, m, e, h⟩
  obtain ⟨r, hr, hR⟩ := read_parts hb h
  have hl := hR.lt
  have hx : y % 9223372036854775808 = r := by rw [hr, word_eq]; split <;> omega
  unfold Format.sub
  rw [h, zero_read]
  unfold Datum.opposite Datum.sum
  dsimp only
  have hp := hR.place
  rw [show min (-1074) e = -1074 by omega, signed_zero, Int.zero_add]
  unfold can
  rw [g3, hx]
  by_cases h0 : m = 0
  · rw [h0, signed_zero, if_pos (hR.zero.1 h0), if_pos rfl]
    show some (double.nearest (false && !s) (Int.natAbs 0) (-1074)) = some 0
    rw [Bool.false_and]; rfl
  · obtain ⟨k1, k2, k3⟩ := signed_pos (!s) m (e - -1074).toNat h0
    rw [if_neg (fun h => h0 (hR.zero.2 h)), if_neg k1, k2, k3]
    show some (double.nearest (!s) (m * 2 ^ (e - -1074).toNat) (-1074)) = _
    rw [show (-1074 : Int) = e - ((e - -1074).toNat : Int) by omega, show (e - (e - ((e - -1074).toNat : Int))).toNat = (e - -1074).toNat by omega, near_back (!s) hR _ (by omega), hr, xor_sign s r (by omega)]
theorem can_lt {x : Nat} (hb : x < 18446744073709551616) (h : Fin x) : can x < 18446744073709551616 ∧ Fin (can x) := by
  unfold can
  split
  · exact ⟨by omega, false, 0, -1074, zero_read⟩
  · exact ⟨hb, h⟩
theorem can_can (x : Nat) : can (can x) = can x := by
  by_cases h : x % 9223372036854775808 = 0
  · unfold can; rw [if_pos h]; rfl
  · have : can x = x := by unfold can; rw [if_neg h]
    rw [this, this]
theorem can_neg {x y : Nat} (hx : x < 18446744073709551616) (fx : Fin x) (hy : y < 18446744073709551616) (fy : Fin y) (h : can x = can y) : can (x ^^^ 9223372036854775808) = can (y ^^^ 9223372036854775808) := by
  have a := (neg_lt hx fx).2.2
  have b := (neg_lt hy fy).2.2
  by_cases h0 : x % 9223372036854775808 = 0
  · have h1 : y % 9223372036854775808 = 0 := by
      unfold can at h; rw [if_pos h0] at h; split at h
      · assumption
      · subst h; rfl
    unfold can; rw [a, b, if_pos h0, if_pos h1]
  · have h1 : ¬ y % 9223372036854775808 = 0 := by
      intro h1; unfold can at h; rw [if_neg h0, if_pos h1] at h; subst h; exact h0 rfl
    have : x = y := by unfold can at h; rwa [if_neg h0, if_neg h1] at h
    rw [this]
theorem sub_self_fin {x : Nat} (h : Fin x) : double.sub x x = some 0 := by
  obtain ⟨s, m, e, h⟩ := h
  unfold Format.sub
  rw [h]
  unfold Datum.opposite Datum.sum
  dsimp only
  have : signed s m (e - min e e).toNat + signed (!s) m (e - min e e).toNat = 0 := by
    unfold signed; cases s <;> simp <;> omega
  rw [this, if_pos rfl]
  show some (double.nearest (s && !s) (Int.natAbs 0) _) = some 0
  rw [Bool.and_not_self]; rfl
theorem sub_self_not {x : Nat} (h : ¬ Fin x) : double.sub x x = none := by
  unfold Format.sub
  cases hr : double.read x with
  | number s m e => exact absurd ⟨s, m, e, hr⟩ h
  | infinity s => cases s <;> rfl
  | nan s f => rfl
theorem order_self_fin {x : Nat} (h : Fin x) : double.order x x = some .eq := by
  obtain ⟨s, m, e, h⟩ := h
  unfold Format.order
  rw [h]
  unfold Datum.order
  dsimp only
  rw [show ∀ a : Int, compare a a = Ordering.eq from fun a => by simp [Int.compare_eq_eq]]
/-- No negative nought: it is 0, or it stands apart from 0. -/
theorem can_zero {x : Nat} (hb : x < 18446744073709551616) (h : Fin x) : can x = 0 ∨ double.order (can x) 0 = some .lt ∨ double.order (can x) 0 = some .gt := by
  unfold can
  split
  · exact Or.inl rfl
  · right
    rename_i hx
    obtain ⟨s, m, e, h⟩ := h
    obtain ⟨r, hr, hR⟩ := read_parts hb h
    have hx2 : x % 9223372036854775808 = r := by rw [hr, word_eq]; have := hR.lt; split <;> omega
    have h0 : m ≠ 0 := fun h => hx (by rw [hx2]; exact hR.zero.1 h)
    unfold Format.order
    rw [h, zero_read]
    unfold Datum.order
    dsimp only
    rw [signed_zero]
    obtain ⟨g1, _, _⟩ := signed_pos s m (e - min e (-1074)).toNat h0
    generalize signed s m (e - min e (-1074)).toNat = q at *
    rcases Int.lt_trichotomy q 0 with h | h | h
    · left; rw [show compare q 0 = Ordering.lt from by simpa [Int.compare_eq_lt] using h]
    · exact absurd h g1
    · right; rw [show compare q 0 = Ordering.gt from by simpa [Int.compare_eq_gt] using h]
theorem nan_read (t : Nat) : ∃ s f, double.read (t % 2 * 2 ^ 63 + 9218868437227405312 + 1 + t / 2 % (2 ^ 52 - 1)) = .nan s f := by
  rw [read_eq]
  have h : (t % 2 * 2 ^ 63 + 9218868437227405312 + 1 + t / 2 % (2 ^ 52 - 1)) % 9223372036854775808 = 9218868437227405312 + 1 + t / 2 % (2 ^ 52 - 1) := by omega
  rw [h, if_neg (by omega), if_neg (by omega), if_neg (by omega)]
  exact ⟨_, _, rfl⟩
theorem nan_order (t y : Nat) : double.order (t % 2 * 2 ^ 63 + 9218868437227405312 + 1 + t / 2 % (2 ^ 52 - 1)) y = none := by
  obtain ⟨s, f, h⟩ := nan_read t
  unfold Format.order
  rw [h]; rfl
end Fl
end Go.Proofs.YtmeoafodcniliaaGreatDoor
