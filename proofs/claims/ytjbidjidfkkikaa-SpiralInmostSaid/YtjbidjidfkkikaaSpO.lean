/- Spot of any number; equalities of places; unlike spots -/
import Derived.Test.YtjbidjidfkkikaaSpN
namespace Go.Proofs.Ytjbidjidfkkikaa
open Go.RowKit
set_option linter.unusedSimpArgs false
set_option linter.unusedVariables false
theorem Spot_any (i : Int) (w : World) : Calls Try.prog 14 #[.int .i64 i] w fun e w' => ∃ (b : Bool) (z1 z2 : Nat), e = .returned (.tuple #[.complex .f64 z1 z2, .bool b]) ∧ (∃ k, w' = w.drewN k) ∧
    ((b = true ∧ ∃ I : Nat, i = (I : Int) ∧ I < 16777216 ∧ z1 = fv (Sp.spot I).1 ∧ z2 = fv (Sp.spot I).2) ∨ (b = false ∧ (i < 0 ∨ 16777216 ≤ i) ∧ z1 = 0 ∧ z2 = 0)) := by
  by_cases hi : i < 0 ∨ 16777216 ≤ i
  · refine (Spot_out i hi w).mono ?_
    rintro e w' ⟨rfl, rfl⟩
    exact ⟨false, 0, 0, rfl, ⟨0, rfl⟩, Or.inr ⟨rfl, hi, rfl, rfl⟩⟩
  · obtain ⟨I, rfl⟩ : ∃ I : Nat, i = (I : Int) := ⟨i.toNat, by omega⟩
    refine (Spot_calls I (by omega) w).mono ?_
    rintro e w' ⟨rfl, hk⟩
    exact ⟨true, _, _, rfl, hk, Or.inl ⟨rfl, I, rfl, by omega, rfl, rfl⟩⟩
theorem ord_fv (x y : Int) (hx : x.natAbs < 2 ^ 53) (hy : y.natAbs < 2 ^ 53) : ∃ o, FloatKind.f64.format.order (fv x) (fv y) = some o ∧ (o = .eq ↔ x = y) :=
  ⟨compare x y, Fl.IsN.order (fv_n x hx) (fv_n y hy), by rw [Int.compare_eq_eq]⟩
theorem Sp.spot_inj {I J : Nat} (h : Sp.spot I = Sp.spot J) : I = J := by
  have key : ∀ K, K ≠ 0 → Sp.spot K = (0, 0) → False := by
    intro K hK hs
    obtain ⟨r, h1, h2, _⟩ := Sp.idx_ring (Sp.spot_idx hK)
    rw [hs] at h1
    simp at h1; omega
  have z : Sp.spot 0 = (0, 0) := rfl
  by_cases hI : I = 0
  · by_cases hJ : J = 0
    · omega
    · subst hI; exact (key J hJ (by rw [← h, z])).elim
  · by_cases hJ : J = 0
    · subst hJ; exact (key I hI (by rw [h, z])).elim
    · have a := Sp.spot_idx hI
      rw [h] at a
      exact Sp.idx_one a (Sp.spot_idx hJ)
end Go.Proofs.Ytjbidjidfkkikaa
