/- Turn at whole numbers; Index within whole rings -/
import Derived.Test.YtjbidjidfkkikaaSpQ
namespace Go.Proofs.Ytjbidjidfkkikaa
open Go.RowKit
set_option linter.unusedSimpArgs false
set_option linter.unusedVariables false
theorem neg_isN {b : Nat} {v : Int} (hb : b < 18446744073709551616) (h : Fl.IsN b v) : Fl.IsN (b ^^^ 9223372036854775808) (-v) := by
  obtain ⟨s, k, h1, h2, h3⟩ := h
  obtain ⟨r, hr, hR⟩ := Fl.read_parts hb h1
  have hl := hR.lt
  refine ⟨!s, k, ?_, ?_, h3⟩
  · rw [Int.natAbs_neg, hr, Fl.xor_sign s r (by omega)]
    exact Fl.read_word hR
  · intro hv
    rw [h2 (by omega)]
    by_cases h : v < 0
    · rw [decide_eq_true h, decide_eq_false (by omega)]; rfl
    · rw [decide_eq_false h, decide_eq_true (by omega)]; rfl
theorem isN_fin {b : Nat} {v : Int} (h : Fl.IsN b v) : Fl.Fin b := by
  obtain ⟨s, k, h1, _⟩ := h; exact ⟨_, _, _, h1⟩
theorem can_isN {b : Nat} {v : Int} (hb : b < 18446744073709551616) (h : Fl.IsN b v) (hv : v.natAbs < 2 ^ 53) : Fl.can b = fv v := by
  have h1 := Fl.add_zero_fin hb (isN_fin h)
  rw [add_zero h hv] at h1
  injection h1 with h1; exact h1.symm
theorem rot_n {x y : Nat} {u v : Int} (hx : x < 18446744073709551616) (nx : Fl.IsN x u) (hy : y < 18446744073709551616) (ny : Fl.IsN y v) : ∀ k, k < 4 → (Sp.rot k x y).1 < 18446744073709551616 ∧ Fl.IsN (Sp.rot k x y).1 (Sp.tn k u v).1 ∧ (Sp.rot k x y).2 < 18446744073709551616 ∧ Fl.IsN (Sp.rot k x y).2 (Sp.tn k u v).2
  | 0, _ => ⟨hx, nx, hy, ny⟩
  | k + 1, hk => by
    obtain ⟨h1, h2, h3, h4⟩ := rot_n hx nx hy ny k (by omega)
    rw [tn_succ k u v (by omega)]
    exact ⟨(Fl.neg_lt h3 (isN_fin h4)).1, neg_isN h3 h4, h1, h2⟩
theorem Sp.tn_le (k : Nat) (u v : Int) : max ((Sp.tn k u v).1.natAbs : Int) ((Sp.tn k u v).2.natAbs : Int) = max (u.natAbs : Int) (v.natAbs : Int) := by
  unfold Sp.tn; split <;> simp <;> omega
theorem Sp.tn_tn (t s : Int) (u v : Int) : Sp.tn (Sp.times t) (Sp.tn (Sp.times s) u v).1 (Sp.tn (Sp.times s) u v).2 = Sp.tn (Sp.times (s + t)) u v := by
  obtain ⟨a, ha⟩ : ∃ a, a = Sp.times s := ⟨_, rfl⟩
  obtain ⟨b, hb⟩ : ∃ b, b = Sp.times t := ⟨_, rfl⟩
  obtain ⟨c, hc⟩ : ∃ c, c = Sp.times (s + t) := ⟨_, rfl⟩
  rw [← ha, ← hb, ← hc]
  have h : c = (a + b) % 4 ∧ a < 4 ∧ b < 4 := by unfold Sp.times at *; omega
  obtain ⟨h1, h2, h3⟩ := h
  have e1 : a = 0 ∨ a = 1 ∨ a = 2 ∨ a = 3 := by omega
  have e2 : b = 0 ∨ b = 1 ∨ b = 2 ∨ b = 3 := by omega
  clear ha hb hc
  rcases e1 with rfl | rfl | rfl | rfl <;> rcases e2 with rfl | rfl | rfl | rfl <;> subst h1 <;> simp [Sp.tn]
theorem Turn_n {x y : Nat} {u v : Int} (hx : x < 18446744073709551616) (nx : Fl.IsN x u) (hy : y < 18446744073709551616) (ny : Fl.IsN y v) (hu : u.natAbs < 2 ^ 53) (hv : v.natAbs < 2 ^ 53) (t : Int) (w : World) (ht : -9223372036854775808 ≤ t ∧ t ≤ 9223372036854775807) :
    Calls Try.prog 26 #[.complex .f64 x y, .int .i64 t] w fun e w' => ∃ k, e = .returned (.complex .f64 (fv (Sp.tn (Sp.times t) u v).1) (fv (Sp.tn (Sp.times t) u v).2)) ∧ w' = w.drewN k := by
  refine (Turn_fin x y hx (isN_fin nx) hy (isN_fin ny) t w ht).mono ?_
  rintro e w' ⟨k, rfl, rfl⟩
  obtain ⟨g1, g2, g3, g4⟩ := rot_n hx nx hy ny (Sp.times t) (Sp.times_eq t).2.1
  obtain ⟨s1, s2⟩ := tn_small (Sp.times t) u v (2 ^ 53) hu hv
  rw [can_isN g1 g2 s1, can_isN g3 g4 s2]
  exact ⟨k, rfl, rfl⟩
theorem Index_ring {x y : Nat} {u v : Int} {r : Nat} (hx : x < 18446744073709551616) (nx : Fl.IsN x u) (hy : y < 18446744073709551616) (ny : Fl.IsN y v) (hr : max (u.natAbs : Int) (v.natAbs : Int) = r) (hr2 : r ≤ 2048) (w : World) :
    Calls Try.prog 17 #[.complex .f64 x y] w fun e w' => ∃ (j : Nat) (b : Bool), e = .returned (.tuple #[.int .i64 (j : Int), .bool b]) ∧ w = w' ∧ ((2 * r + 1) * (2 * r + 1) ≤ 16777216 → b = true ∧ j < (2 * r + 1) * (2 * r + 1) ∧ (r = 0 ∨ (2 * r - 1) * (2 * r - 1) ≤ j)) := by
  by_cases h0 : r = 0
  · subst h0
    obtain rfl : u = 0 := by omega
    obtain rfl : v = 0 := by omega
    refine (Index_zero x y nx ny hx hy w).mono ?_
    rintro e w' ⟨rfl, rfl⟩
    exact ⟨0, true, rfl, rfl, fun _ => ⟨rfl, by omega, Or.inl rfl⟩⟩
  · have key : ∃ j, Sp.IdxIs j u v := by
      rcases Sp.some_hit (by omega) hr with h | h | h | h
      · obtain ⟨al, _, _, h⟩ := Sp.hit_idx (by omega) (by omega) (by omega) (by omega) h; exact ⟨_, h⟩
      · obtain ⟨al, _, _, h⟩ := Sp.hit_idx (by omega) (by omega) (by omega) (by omega) h; exact ⟨_, h⟩
      · obtain ⟨al, _, _, h⟩ := Sp.hit_idx (by omega) (by omega) (by omega) (by omega) h; exact ⟨_, h⟩
      · obtain ⟨al, _, _, h⟩ := Sp.hit_idx (by omega) (by omega) (by omega) (by omega) h; exact ⟨_, h⟩
    obtain ⟨j, hj⟩ := key
    obtain ⟨r', h1, h2, h3, h4⟩ := Sp.idx_ring hj
    obtain rfl : r' = r := by omega
    refine (Index_yes x y j u v nx ny (by omega) (by omega) hx hy hj w).mono ?_
    rintro e w' ⟨rfl, rfl⟩
    by_cases hb : j < 16777216
    · refine ⟨j, true, ?_, rfl, fun _ => ⟨rfl, h4, Or.inr h3⟩⟩
      rw [if_pos hb, decide_eq_true hb]
    · refine ⟨0, false, ?_, rfl, fun h => ?_⟩
      · rw [if_neg hb, decide_eq_false hb]; rfl
      · omega
end Go.Proofs.Ytjbidjidfkkikaa
