/- Balanced layouts: plain mathematics, no program. -/
import Derived.Test.YtlceolhfkioojaaLaM
namespace Go.Proofs.Ytlceolhfkioojaa.La
set_option linter.unusedSimpArgs false
set_option linter.unusedVariables false
theorem degOk_get {ds : List Int} (h : degOk ds = true) {c : Nat} {d : Int} (hc : ds[c]? = some d) : 0 ≤ d ∧ d ≤ 16777216 := by
  have := List.all_eq_true.1 h d (List.mem_of_getElem? hc)
  simpa using this
theorem wt_bound (ds : List Int) (h : degOk ds = true) : ∀ c, c ≤ ds.length → (c : Int) ≤ wt ds c ∧ wt ds c ≤ c * 16777217
  | 0, _ => by rw [wt_zero]; omega
  | c + 1, hc => by
    obtain ⟨d, hd⟩ : ∃ d, ds[c]? = some d := ⟨ds[c], List.getElem?_eq_getElem (by omega)⟩
    have h1 := degOk_get h hd
    have := wt_bound ds h c (by omega)
    rw [wt_succ ds c d hd]
    omega
theorem wt_lt (ds : List Int) (h : degOk ds = true) : ∀ k c, c + k ≤ ds.length → wt ds c + k ≤ wt ds (c + k)
  | 0, c, _ => by simp
  | k + 1, c, hc => by
    obtain ⟨d, hd⟩ : ∃ d, ds[c + k]? = some d := ⟨ds[c + k], List.getElem?_eq_getElem (by omega)⟩
    have h1 := degOk_get h hd
    have := wt_lt ds h k c (by omega)
    rw [← Nat.add_assoc, wt_succ ds (c + k) d hd]
    omega
theorem nx_spec (ds : List Int) (s i c : Nat) (hi : i < s) (hc : (c : Int) + ((s : Int) - i) ≤ ds.length) : c + 1 ≤ nx ds s i c ∧ (nx ds s i c : Int) ≤ (ds.length : Int) - ((s : Int) - 1 - i) ∧
    (c + 1 < nx ds s i c → wt ds (nx ds s i c - 1) * s < ((i : Int) + 1) * wt ds ds.length) ∧ ((nx ds s i c : Int) < (ds.length : Int) - ((s : Int) - 1 - i) → ((i : Int) + 1) * wt ds ds.length ≤ wt ds (nx ds s i c) * s) := by
  unfold nx
  have a1 := adv_ge (wt ds) ((ds.length : Int) - ((s : Int) - 1 - i)) s (((i : Int) + 1) * wt ds ds.length) ds.length (c + 1)
  have a2 := adv_le (wt ds) ((ds.length : Int) - ((s : Int) - 1 - i)) s (((i : Int) + 1) * wt ds ds.length) ds.length (c + 1)
  have a3 := adv_mid (wt ds) ((ds.length : Int) - ((s : Int) - 1 - i)) s (((i : Int) + 1) * wt ds ds.length) ds.length (c + 1)
  have a4 := adv_end (wt ds) ((ds.length : Int) - ((s : Int) - 1 - i)) s (((i : Int) + 1) * wt ds ds.length) ds.length (c + 1) (by omega)
  generalize adv (wt ds) ((ds.length : Int) - ((s : Int) - 1 - i)) s (((i : Int) + 1) * wt ds ds.length) ds.length (c + 1) = x at *
  refine ⟨a1, by omega, fun h => (a3 h).2, fun h => ?_⟩
  have := fun h2 => a4 ⟨h, h2⟩
  omega
theorem balC_inv (ds : List Int) (s : Nat) (hs : s ≤ ds.length) : ∀ i, i ≤ s → (balC ds s i : Int) + ((s : Int) - i) ≤ ds.length
  | 0, _ => by rw [balC]; omega
  | i + 1, hi => by
    have := (nx_spec ds s i (balC ds s i) (by omega) (balC_inv ds s hs i (by omega))).2.1
    rw [balC]; omega
theorem balC_step (ds : List Int) (s i : Nat) (hs : s ≤ ds.length) (hi : i < s) : balC ds s i + 1 ≤ balC ds s (i + 1) ∧ (balC ds s (i + 1) : Int) ≤ (ds.length : Int) - ((s : Int) - 1 - i) ∧
    (balC ds s i + 1 < balC ds s (i + 1) → wt ds (balC ds s (i + 1) - 1) * s < ((i : Int) + 1) * wt ds ds.length) ∧ ((balC ds s (i + 1) : Int) < (ds.length : Int) - ((s : Int) - 1 - i) → ((i : Int) + 1) * wt ds ds.length ≤ wt ds (balC ds s (i + 1)) * s) :=
  nx_spec ds s i (balC ds s i) hi (balC_inv ds s hs i (by omega))
theorem balC_all (ds : List Int) (s : Nat) (h : degOk ds = true) (h1 : 1 ≤ s) (hs : s ≤ ds.length) : balC ds s s = ds.length := by
  obtain ⟨k, rfl⟩ : ∃ k, s = k + 1 := ⟨s - 1, by omega⟩
  have a := balC_step ds (k + 1) k hs (by omega)
  have b := balC_inv ds (k + 1) hs (k + 1) (Nat.le_refl _)
  obtain ⟨_, a2, _, a4⟩ := a
  generalize balC ds (k + 1) (k + 1) = x at *
  rcases Nat.lt_or_ge x ds.length with hlt | hge
  · exfalso
    have h5 := a4 (by omega)
    have h6 := wt_lt ds h (ds.length - x) x (by omega)
    rw [show x + (ds.length - x) = ds.length by omega] at h6
    have h7 : wt ds x < wt ds ds.length := by omega
    have h8 : wt ds x * ((k + 1 : Nat) : Int) < wt ds ds.length * ((k + 1 : Nat) : Int) := Int.mul_lt_mul_of_pos_right h7 (by omega)
    have h9 : ((k : Int) + 1) * wt ds ds.length = wt ds ds.length * ((k + 1 : Nat) : Int) := by rw [Int.mul_comm]; norm_cast
    omega
  · omega
theorem balL_last (ds : List Int) (s : Nat) : ∀ k, lastI 0 (balL ds s k) = (balC ds s k : Int)
  | 0 => rfl
  | k + 1 => by rw [balL_succ, lastI_append]
theorem balL_rises (ds : List Int) (s : Nat) (hs : s ≤ ds.length) : ∀ k, k ≤ s → rises 0 (balL ds s k) = true
  | 0, _ => rfl
  | k + 1, hk => by
    rw [balL_succ, rises_append]
    refine ⟨balL_rises ds s hs k (by omega), ?_⟩
    rw [balL_last]
    have := (balC_step ds s k hs (by omega)).1
    omega
/-- What a layout is. -/
def Good (n : Int) (zs : List Int) : Prop := rises 0 zs = true ∧ lastI 0 zs = n ∧ zs.length ≤ 1000 ∧ 0 ≤ n ∧ n ≤ 16777216
theorem good_new {n : Int} {zs : List Int} (h : newE n zs = 0) : Good n zs := by
  unfold newE at h
  split at h
  · cases h
  · split at h
    · rename_i h1 h2
      simp only [newOk, Bool.and_eq_true, decide_eq_true_eq] at h2
      exact ⟨h2.1.1, h2.1.2, h2.2, by omega, by omega⟩
    · cases h
theorem newE_good {n : Int} {zs : List Int} (h : Good n zs) : newE n zs = 0 := by
  obtain ⟨h1, h2, h3, h4, h5⟩ := h
  unfold newE
  rw [if_neg (by omega), if_pos]
  simp only [newOk, Bool.and_eq_true, decide_eq_true_eq]
  exact ⟨⟨h1, h2⟩, h3⟩
theorem many_spec {n s : Int} (h : many n s = true) : (n = 0 ∧ s = 0) ∨ (1 ≤ s ∧ s ≤ n ∧ s ≤ 1000) := by
  unfold many at h
  split at h
  · rename_i h0; exact Or.inl ⟨h0, by simpa using h⟩
  · simp only [Bool.and_eq_true, decide_eq_true_eq] at h; exact Or.inr ⟨h.1.1, h.1.2, h.2⟩
theorem good_even {n s : Int} (h : evenE n s = 0) : Good n (evenL n s s.toNat) := by
  unfold evenE at h
  split at h
  · cases h
  · split at h
    · rename_i h0 hm
      rcases many_spec hm with ⟨rfl, rfl⟩ | ⟨h1, h2, h3⟩
      · exact ⟨rfl, rfl, by simp [evenL], by omega, by omega⟩
      · refine ⟨evenL_rises n s (by omega) h2 _, ?_, by rw [evenL_length]; omega, by omega, by omega⟩
        rw [evenL_last n s (by omega) (by omega), Int.toNat_of_nonneg (by omega), Int.mul_ediv_cancel_left _ (by omega)]
    · cases h
theorem good_bal {ds : List Int} {s : Int} (h : balE ds s = 0) : Good ds.length (balL ds s.toNat s.toNat) := by
  unfold balE at h
  split at h
  · cases h
  · split at h
    · split at h
      · rename_i h0 hd hm
        rcases many_spec hm with ⟨h1, rfl⟩ | ⟨h1, h2, h3⟩
        · exact ⟨rfl, by simp [balL, lastI]; omega, by simp [balL], by omega, by omega⟩
        · refine ⟨balL_rises ds s.toNat (by omega) _ (Nat.le_refl _), ?_, by rw [balL_length]; omega, by omega, by omega⟩
          rw [balL_last, balC_all ds s.toNat hd (by omega) (by omega)]
      · cases h
    · cases h
theorem good_lo {n : Int} {zs : List Int} (h : Good n zs) (i : Nat) (hi : i < zs.length) : 0 ≤ lo zs i ∧ lo zs i < zs.getD i 0 ∧ zs.getD i 0 ≤ n := by
  have h1 := lo_lt zs i h.1 hi
  have h2 := (rises_gt zs 0 i h.1 hi).2
  rw [h.2.1] at h2
  exact ⟨h1.1, h1.2, h2⟩
theorem good_rng {n : Int} {zs : List Int} (h : Good n zs) (i : Int) : 0 ≤ (rng zs i).1 ∧ (rng zs i).1 ≤ 16777216 ∧ 0 ≤ (rng zs i).2 ∧ (rng zs i).2 ≤ 16777216 := by
  have hn := h.2.2.2
  by_cases hi : i < 0 ∨ (zs.length : Int) ≤ i
  · rw [rng_out zs i hi]; simp
  · obtain ⟨k, rfl⟩ : ∃ k : Nat, i = (k : Int) := ⟨i.toNat, by omega⟩
    rw [rng_in zs k (by omega)]
    have := good_lo h k (by omega)
    simp only; omega
end Go.Proofs.Ytlceolhfkioojaa.La
