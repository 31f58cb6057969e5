/- feeders: plain -/
import Derived.Test.YtgoobadkbndfgaaDoorFaM
namespace Go.Proofs.YtgoobadkbndfgaaDoor
set_option linter.unusedSimpArgs false
set_option linter.unusedVariables false
namespace Tx
theorem nlIdx_none_no : ∀ {t : List By}, nlIdx t = none → ∀ d ∈ t, n8 d ≠ 10
  | [], _, d, hd => by cases hd
  | c :: r, h, d, hd => by
    unfold nlIdx at h
    split at h
    · cases h
    · rename_i hc
      have hr : nlIdx r = none := by
        cases hr : nlIdx r with
        | none => rfl
        | some j => rw [hr] at h; cases h
      rcases List.mem_cons.1 hd with h1 | h1
      · rw [h1]; exact hc
      · exact nlIdx_none_no hr d h1
theorem tail_no : ∀ (k : Nat) (t : List By), t.length ≤ k → ∀ d ∈ tail t, n8 d ≠ 10
  | 0, t, h, d, hd => by
    have : t = [] := List.eq_nil_of_length_eq_zero (by omega)
    subst this; cases hd
  | k + 1, t, h, d, hd => by
    cases hi : nlIdx t with
    | none => rw [(whole_none hi).2] at hd; exact nlIdx_none_no hi d hd
    | some i =>
      have hl := nlIdx_lt hi
      rw [(whole_some hi).2] at hd
      exact tail_no k (t.drop (i + 1)) (by simp; omega) d hd
theorem tail_ends (x : List By) : tail (x ++ [10#8]) = [] := by
  rw [tail_append]
  refine (lines_one (l := tail x) ?_).2
  intro j d hd
  exact tail_no _ x (Nat.le_refl _) d (List.mem_of_getElem? hd)
/-- The whole lines of a text end at i. -/
structure WholeAt (T : List By) (i : Nat) : Prop where
  le : i ≤ T.length
  tail0 : tail (T.take i) = []
  rest : tail T = T.drop i
  head : lines (T.take i) = whole T
theorem wholeAt_of {T : List By} {i : Nat} (hi : i ≤ T.length) (hno : NoNl T i T.length) (h : i = 0 ∨ ∃ c, T[i - 1]? = some c ∧ n8 c = 10) : WholeAt T i := by
  have h0 : tail (T.take i) = [] := by
    rcases h with h | ⟨c, hc, h10⟩
    · subst h; rfl
    · have hil : i - 1 < T.length := (List.getElem?_eq_some_iff.1 hc).1
      by_cases hi0 : i = 0
      · subst hi0; rfl
      · have hc10 : c = 10#8 := n8_inj h10
        rw [show i = (i - 1) + 1 by omega, List.take_add_one, hc, hc10]
        exact tail_ends _
  have hn : nlIdx (T.drop i) = none := by
    refine nlIdx_no _ ?_
    intro j d hd
    rw [List.getElem?_drop] at hd
    have : i + j < T.length := (List.getElem?_eq_some_iff.1 hd).1
    exact hno (i + j) d (by omega) (by omega) hd
  obtain ⟨h1, h2⟩ := lines_append (x := T.take i) (T.drop i) h0
  rw [List.take_append_drop] at h1 h2
  rw [(whole_none hn).2] at h2
  refine ⟨hi, h0, h2, ?_⟩
  rw [lines_none hn] at h1
  unfold lines at h1
  rw [h2] at h1
  exact (List.append_cancel_right h1).symm
theorem all_whole {T : List By} {i : Nat} (h : WholeAt T i) : all (T.take i) = runW T := by
  show run 0 false (lines (T.take i)) = run 0 false (whole T)
  rw [h.head]
theorem run_n0 : ∀ (ls : List (List By)), (run 0 false ls).begun = false → (run 0 false ls).n = 0
  | [], _ => rfl
  | l :: ls, h => by
    rw [run_cons] at h ⊢
    have key : ∀ ws, (scan 0 false ws).begun = false → (scan 0 false ws).n = 0 := by
      intro ws hb
      match ws with
      | [] => rfl
      | [a] => rfl
      | [a, b] =>
        unfold scan at hb ⊢
        dsimp only at hb ⊢
        rw [if_neg (by simp)] at hb ⊢
        by_cases h1 : a ≠ vertices ∨ (num b).2 = false
        · rw [if_pos h1]
        · rw [if_neg h1] at hb ⊢
          by_cases h2 : 16777216 < (num b).1
          · rw [if_pos h2]
          · rw [if_neg h2] at hb; cases hb
      | a :: b :: c :: r => rfl
    by_cases hs : (scan 0 false (words l)).e ≠ 0
    · rw [if_pos hs] at h ⊢
      exact key _ h
    · rw [if_neg hs] at h ⊢
      dsimp only at h ⊢
      cases hb : (scan 0 false (words l)).begun with
      | true => rw [hb, run_begun] at h; cases h
      | false =>
        have hk := key _ hb
        rw [hb, hk] at h
        rw [hk]
        exact run_n0 ls h
/-- The fault's line is none just if there is no fault. -/
theorem fEnd_zero {n : Int} {b : Bool} {ls : List (List By)} : ((run n b ls).fEnd 0 0 = 0 ↔ (run n b ls).e = 0) ∧ ((run n b ls).e ≠ 0 → (run n b ls).fEnd 0 0 = (run n b ls).k) := by
  unfold Run.fEnd
  by_cases h : (run n b ls).e = 0
  · rw [if_neg (by simpa using h)]
    exact ⟨⟨fun _ => h, fun _ => rfl⟩, fun h2 => absurd h h2⟩
  · have hk := (run_fault_at n b ls h).1
    rw [if_pos h]
    exact ⟨⟨fun h2 => by omega, fun h2 => absurd h2 h⟩, fun _ => by omega⟩
theorem scan_quiet (n : Int) (b : Bool) (ws : List (List By)) (h : (scan n b ws).begun = false) : (scan n b ws).says = false := by
  match ws with
  | [] => rfl
  | [a] => rfl
  | [x, y] =>
    cases b with
    | true => unfold scan at h; simp at h
    | false =>
      unfold scan
      dsimp only
      rw [if_neg (by simp)]
      by_cases h1 : x ≠ vertices ∨ (num y).2 = false
      · rw [if_pos h1]
      · rw [if_neg h1]
        by_cases h2 : 16777216 < (num y).1
        · rw [if_pos h2]
        · rw [if_neg h2]
  | a :: b :: c :: r => rfl
theorem lasts_pairs (n : Int) (b : Bool) (t : List By) : (run n b (lasts t)).pEnd = (run n b (lasts t)).pairs := by
  by_cases ht : t = []
  · subst ht
    rw [run_lasts_nil]
    unfold Run.pEnd; split <;> rfl
  · rw [run_lasts _ _ _ ht]
    by_cases he : (scan n b (words t)).e ≠ 0
    · rw [if_pos he]; unfold Run.pEnd; split <;> rfl
    · rw [if_neg he]
      unfold Run.pEnd Run.eEnd
      dsimp only
      by_cases hb : (scan n b (words t)).begun = true
      · simp [hb]
      · have hs : (scan n b (words t)).says = false := scan_quiet n b _ (by simpa using hb)
        simp [hb, hs]
end Tx
end Go.Proofs.YtgoobadkbndfgaaDoor
