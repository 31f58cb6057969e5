/- Side of any number, and the document's -/
import Derived.Test.YtjbidjidfkkikaaSpN
namespace Go.Proofs.Ytjbidjidfkkikaa
open Go.RowKit
set_option linter.unusedSimpArgs false
set_option linter.unusedVariables false
/-- The least k whose square of the side 2 k + 1 has room for n. -/
theorem Sp.side_eq (n k : Nat) (hn : 1 ≤ n) (h1 : k = 0 ∨ (2 * k - 1) * (2 * k - 1) < n) (h2 : n ≤ (2 * k + 1) * (2 * k + 1)) : Sp.side n = 2 * k + 1 := by
  obtain ⟨s1, s2⟩ := Sp.isq_spec n
  unfold Sp.side
  generalize Sp.isq n = r at *
  dsimp only
  have up : ∀ a b : Nat, a ≤ b → a * a ≤ b * b := fun a b h => Nat.mul_le_mul h h
  have lt : ∀ a b : Nat, a * a < b * b → a < b := fun a b h => by
    rcases Nat.lt_or_ge a b with g | g
    · exact g
    · have := up b a g; omega
  have le : ∀ a b : Nat, a * a ≤ b * b → a ≤ b := fun a b h => by
    rcases Nat.lt_or_ge b a with g | g
    · have := Nat.mul_lt_mul'' g g; omega
    · exact g
  split
  · rename_i h
    have a1 : r < 2 * k + 1 := lt _ _ (by omega)
    have a2 : 1 ≤ k → 2 * k - 1 < r + 1 := fun hk => by
      rcases h1 with h1 | h1
      · omega
      · exact lt _ _ (by omega)
    rcases Nat.eq_zero_or_pos k with h0 | h0
    · subst h0; obtain rfl : r = 0 := by omega
      omega
    · have := a2 h0; omega
  · rename_i h
    have e : r * r = n := by omega
    have a1 : r ≤ 2 * k + 1 := le _ _ (by omega)
    rcases h1 with h1 | h1
    · subst h1
      have : 1 ≤ r := by
        rcases Nat.eq_zero_or_pos r with h | h
        · subst h; omega
        · exact h
      omega
    · have a2 : 2 * k - 1 < r := lt _ _ (by omega)
      omega
theorem Side_zero (n : Int) (h : n ≤ 0) (w : World) : Calls Try.prog 31 #[.int .i64 n] w fun e w' => e = .returned (.int .i64 0) ∧ w = w' := by
  go_enter Try.func31, Try.ntmps31
  go_wp2_with fail
  go_ret
  exact ⟨rfl, rfl⟩
theorem rSide_zero (n : Int) (h : n ≤ 0) (w : World) : Calls Try.prog 32 #[.int .i64 n] w fun e w' => e = .returned (.int .i64 0) ∧ w = w' := by
  go_enter Try.func32, Try.ntmps32
  go_wp2_with fail
  go_ret
  exact ⟨rfl, rfl⟩
theorem Sp.half (n K S : Nat) (hS : ∃ j, S = 2 ^ j) (h : n ≤ (2 * (K + S) - 1) * (2 * (K + S) - 1)) : (S / 2 = 0 ∧ n ≤ (2 * K + 1) * (2 * K + 1)) ∨ ((∃ j, S / 2 = 2 ^ j) ∧ n ≤ (2 * (K + 2 * (S / 2)) - 1) * (2 * (K + 2 * (S / 2)) - 1)) := by
  obtain ⟨j, rfl⟩ := hS
  cases j with
  | zero =>
    left
    refine ⟨rfl, ?_⟩
    rw [show 2 * (K + 2 ^ 0) - 1 = 2 * K + 1 by simp; omega] at h
    exact h
  | succ j =>
    right
    have e : 2 ^ (j + 1) / 2 = 2 ^ j := by rw [Nat.pow_succ]; omega
    rw [e]
    refine ⟨⟨j, rfl⟩, ?_⟩
    rw [show K + 2 ^ (j + 1) = K + 2 * 2 ^ j by rw [Nat.pow_succ]; omega] at h
    exact h
theorem Sp.test (n m : Nat) (hm : 1 ≤ m) : m ≤ (n - 1) / m ↔ m * m ≤ n - 1 := Nat.le_div_iff_mul_le hm
set_option maxHeartbeats 1000000 in
theorem rSide_calls (n : Nat) (h1 : 1 ≤ n) (hn : n ≤ 9223372036854775807) (w : World) : Calls Try.prog 32 #[.int .i64 (n : Int)] w fun e w' => e = .returned (.int .i64 (Sp.side n : Nat)) ∧ w = w' := by
  have h0 : ¬ (n : Int) ≤ 0 := by omega
  go_enter Try.func32, Try.ntmps32
  go_wp2_with fail
  go_loopw [3, 4] (fun k s wr => ∃ K S : Nat, k = .int .i64 (K : Int) ∧ s = .int .i64 (S : Int) ∧ (K = 0 ∨ (2 * K - 1) * (2 * K - 1) < n) ∧ ((S = 0 ∧ n ≤ (2 * K + 1) * (2 * K + 1)) ∨ ((∃ j, S = 2 ^ j) ∧ n ≤ (2 * (K + 2 * S) - 1) * (2 * (K + 2 * S) - 1))) ∧ K + 2 * S ≤ 2147483648 ∧ w = wr) (fun _ s _ => (intOf s).toNat)
  case atStart => exact ⟨0, 1073741824, rfl, rfl, Or.inl rfl, Or.inr ⟨⟨30, rfl⟩, by omega⟩, by omega, rfl⟩
  case round =>
    obtain ⟨K, S, rfl, rfl, hK, hS, hb, rfl⟩ := hrel
    by_cases hz : S = 0
    · subst hz
      have hS2 : n ≤ (2 * K + 1) * (2 * K + 1) := by
        rcases hS with ⟨_, h⟩ | ⟨⟨j, h⟩, _⟩
        · exact h
        · have := Nat.two_pow_pos j; omega
      have He := Lib.hid (Sp.side_eq n K h1 hK hS2)
      clear hK hS hS2
      go_wp2_with fail
      go_ret
      exact ⟨by rw [He.out]; rfl, rfl⟩
    · rcases hS with ⟨h, _⟩ | ⟨hp, hu⟩
      · exact absurd h hz
      have hm := Sp.test n (2 * (K + S) - 1) (by omega)
      have em : (((n - 1) / (2 * (K + S) - 1) : Nat) : Int) = ((n : Int) - 1) / (2 * ((K : Int) + (S : Int)) - 1) := by
        rw [Int.natCast_ediv]; congr 1 <;> omega
      have eh : ((S / 2 : Nat) : Int) = (S : Int) / 2 := by omega
      have hz' : 0 < S := by omega
      by_cases ht : 2 * (K + S) - 1 ≤ (n - 1) / (2 * (K + S) - 1)
      · have t1 : 2 * ((K : Int) + (S : Int)) - 1 ≤ ((n : Int) - 1) / (2 * ((K : Int) + (S : Int)) - 1) := by rw [← em]; omega
        have h3 := hm.1 ht
        have Hh := Lib.hid (Sp.half n (K + S) S hp (by rw [show K + S + S = K + 2 * S by omega]; exact hu))
        have Hk := Lib.hid (show (2 * (K + S) - 1) * (2 * (K + S) - 1) < n by omega)
        clear ht hm h3 hp hu hK em
        go_wp2_with fail
        exact ⟨⟨K + S, S / 2, by congr 1, by rw [eh], Or.inr Hk.out, Hh.out, by omega, trivial⟩, by simp only [intOf]; omega⟩
      · have t1 : ((n : Int) - 1) / (2 * ((K : Int) + (S : Int)) - 1) < 2 * ((K : Int) + (S : Int)) - 1 := by rw [← em]; omega
        have h3 : ¬ _ := fun h => ht (hm.2 h)
        have Hh := Lib.hid (Sp.half n K S hp (by omega))
        have Hk := Lib.hid hK
        clear ht hm h3 hp hu hK em
        go_wp2_with fail
        exact ⟨⟨K, S / 2, rfl, by rw [eh], Hk.out, Hh.out, by omega, trivial⟩, by simp only [intOf]; omega⟩
end Go.Proofs.Ytjbidjidfkkikaa
