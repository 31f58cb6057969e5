/- A row of frames cut off: plain mathematics -/
import Derived.Test.YtnbagbenpojpnaaDoorLawRows
namespace Go.Proofs.YtnbagbenpojpnaaDoor
set_option linter.unusedSimpArgs false
set_option linter.unusedVariables false
namespace Fr
theorem joinF_cons (k : BitVec 8) (p : List (BitVec 8)) (gs : FrL) : joinF ((k, p) :: gs) = encode k p ++ joinF gs := by simp [joinF]
theorem joinF_append (gs hs : FrL) : joinF (gs ++ hs) = joinF gs ++ joinF hs := by simp [joinF]
theorem joinF_split (gs : FrL) (c : Nat) : joinF gs = joinF (gs.take c) ++ joinF (gs.drop c) := by
  rw [← joinF_append, List.take_append_drop]
/-- How many bytes the first c frames have. -/
def cum (gs : FrL) (c : Nat) : Nat := (joinF (gs.take c)).length
theorem cum_zero (gs : FrL) : cum gs 0 = 0 := by simp [cum, joinF]
theorem cum_succ (gs : FrL) (c : Nat) (k : BitVec 8) (p : List (BitVec 8)) (h : gs[c]? = some (k, p)) : cum gs (c + 1) = cum gs c + 12 + p.length := by
  unfold cum
  rw [List.take_add_one, h, Option.toList_some, joinF_append, List.length_append, joinF_cons, List.length_append, encode_length]
  simp [joinF]; omega
theorem cum_all (gs : FrL) (c : Nat) (h : gs.length ≤ c) : cum gs c = (joinF gs).length := by unfold cum; rw [List.take_of_length_le h]
theorem cum_le (gs : FrL) (c : Nat) : cum gs c ≤ (joinF gs).length := by
  rw [joinF_split gs c, List.length_append]; unfold cum; omega
/-- The frames that are ahead of bytes that begin with no frame. -/
theorem rows_ahead (gs : FrL) (c : Nat) (r b : List (BitVec 8)) (ok : ∀ x ∈ gs, okF x) (hc : c ≤ gs.length) (hb : b = joinF (gs.take c) ++ r) (hr : good r = false) : rows b.length b = gs.take c ∧ rowsAt b.length b = cum gs c := by
  have hl : (gs.take c).length ≤ b.length := by
    have := joinF_length_ge (gs.take c)
    rw [hb, List.length_append]; omega
  obtain ⟨h1, h2⟩ := rows_join (gs.take c) r b.length (fun x hx => ok x (List.mem_of_mem_take hx)) hl
  rw [← hb] at h1 h2
  rw [rows_bad hr, List.append_nil] at h1
  rw [rowsAt_bad hr, Nat.add_zero] at h2
  exact ⟨h1, h2⟩
theorem rows_all (gs : FrL) (ok : ∀ x ∈ gs, okF x) : rows (joinF gs).length (joinF gs) = gs ∧ rowsAt (joinF gs).length (joinF gs) = (joinF gs).length := by
  have := rows_ahead gs gs.length [] (joinF gs) ok (Nat.le_refl _) (by simp) good_nil
  rw [List.take_of_length_le (Nat.le_refl _), cum_all gs _ (Nat.le_refl _)] at this
  exact this
theorem cut_rows (gs : FrL) (at' c : Nat) (ok : ∀ x ∈ gs, okF x) (hat : at' ≤ (joinF gs).length) (hc : c ≤ gs.length) (h1 : cum gs c ≤ at') (h2 : ∀ k p, gs[c]? = some (k, p) → at' < cum gs c + 12 + p.length) :
    rows ((joinF gs).take at').length ((joinF gs).take at') = gs.take c ∧ rowsAt ((joinF gs).take at').length ((joinF gs).take at') = cum gs c := by
  have e : (joinF gs).take at' = joinF (gs.take c) ++ (joinF (gs.drop c)).take (at' - cum gs c) := by
    rw [joinF_split gs c, List.take_append, List.take_of_length_le (show (joinF (gs.take c)).length ≤ at' from h1)]; rfl
  refine rows_ahead gs c _ _ ok hc e ?_
  cases hd : gs.drop c with
  | nil => simp [joinF]; rfl
  | cons x t =>
    obtain ⟨k, p⟩ := x
    have hx : gs[c]? = some (k, p) := by
      have := congrArg (fun l => l[0]?) hd
      simpa using this
    have hlt := h2 k p hx
    have hp := (ok (k, p) (List.mem_of_getElem? hx)).2
    rw [joinF_cons, List.take_append_of_le_length (by rw [encode_length]; omega)]
    exact cut_short k p _ hp (by omega)
end Fr
/-- The frames of a row, those left out that cannot be. -/
theorem joinE_frames : ∀ fs : FrA, ∃ gs : FrL, (∀ x ∈ gs, Fr.okF x) ∧ joinE fs = Fr.joinF gs
  | [] => ⟨[], by simp, rfl⟩
  | (k, p) :: fs => by
    obtain ⟨gs, h1, h2⟩ := joinE_frames fs
    have e : joinE ((k, p) :: fs) = encL k p ++ joinE fs := by simp [joinE]
    rcases enc_cases k p with ⟨hk, hp, he, _⟩ | ⟨he, _⟩
    · refine ⟨(BitVec.ofInt 8 k, p) :: gs, ?_, ?_⟩
      · intro x hx
        rcases List.mem_cons.1 hx with rfl | hx
        · exact ⟨isKb_of hk, hp⟩
        · exact h1 x hx
      · rw [e, he, h2, Fr.joinF_cons]
    · exact ⟨gs, h1, by rw [e, he, h2]; rfl⟩
theorem FrRd.take {w : World} {B : Nat} {A : Option Addr} {fs : FrA} (h : FrRd w B A fs) (c : Nat) : FrRd w B A (fs.take c) := by
  intro i k p hi
  refine h i k p ?_
  rw [List.getElem?_take] at hi
  split at hi
  · exact hi
  · cases hi
theorem kInt_get {gs : FrL} {c : Nat} {k : BitVec 8} {p : List (BitVec 8)} (h : gs[c]? = some (k, p)) : (kInt gs)[c]? = some ((n8 k : Int), p) := by
  unfold kInt; rw [List.getElem?_map, h]; rfl
theorem kInt_take (gs : FrL) (c : Nat) : kInt (gs.take c) = (kInt gs).take c := by unfold kInt; rw [List.map_take]
/-- at % (n + 1), made not less than 0. -/
theorem rem_in (a : Int) (m : Nat) (hm : 0 < m) (hb : m ≤ 9999999) : ∃ r : Nat, r < m ∧ Int.tmod (Int.tmod a m + m) m = (r : Int) := by
  have h1 := Int.tmod_lt_of_pos a (show (0 : Int) < m by omega)
  have h2 := Int.lt_tmod_of_pos a (show (0 : Int) < m by omega)
  have h3 := Int.tmod_nonneg (m : Int) (show 0 ≤ Int.tmod a m + m by omega)
  have h4 := Int.tmod_lt_of_pos (Int.tmod a m + m) (show (0 : Int) < m by omega)
  exact ⟨(Int.tmod (Int.tmod a m + m) m).toNat, by omega, by omega⟩
end Go.Proofs.YtnbagbenpojpnaaDoor
