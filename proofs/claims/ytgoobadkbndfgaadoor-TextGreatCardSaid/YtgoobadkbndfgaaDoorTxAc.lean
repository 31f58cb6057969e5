/- TextGreat: plain -/
import Derived.Test.YtgoobadkbndfgaaDoorTxAb
namespace Go.Proofs.YtgoobadkbndfgaaDoor
set_option linter.unusedSimpArgs false
set_option linter.unusedVariables false
namespace Tx
/-- An edge file of one line behind its first. -/
theorem all_one (n : Int) (l : List By) (h0 : 0 ≤ n) (h1 : n ≤ 16777216) (hl : noNl l) : all (rowF vertices [n] ++ (l ++ [10#8])) =
    if (scan n true (words l)).e ≠ 0 then ⟨[], (scan n true (words l)).e, 2, (scan n true (words l)).n, (scan n true (words l)).begun⟩
    else ⟨if (scan n true (words l)).says then [((scan n true (words l)).u, (scan n true (words l)).v)] else [], 0, 2, (scan n true (words l)).n, (scan n true (words l)).begun⟩ := by
  have hl1 : noNl (vertices ++ [32#8] ++ digs n) := noNl_append (noNl_append noNl_vertices noNl_blank) (digs_noNl n h0)
  obtain ⟨w1, w2⟩ := whole_line (vertices ++ [32#8] ++ digs n) (l ++ [10#8]) hl1
  obtain ⟨w3, w4⟩ := whole_line l [] hl
  have e : rowF vertices [n] ++ (l ++ [10#8]) = (vertices ++ [32#8] ++ digs n) ++ 10#8 :: (l ++ [10#8]) := by rw [rowF_first]; simp
  unfold all lines
  rw [e, w1, w2, w3, w4]
  have hs : scan 0 false (words (vertices ++ [32#8] ++ digs n)) = ⟨0, 0, false, 0, n, true⟩ := by
    rw [words_two _ _ vertices_clean (digs_clean n h0)]
    unfold scan
    simp only [num_digs n h0 (by omega)]
    simp
    omega
  rw [show whole [] = [] from rfl, show lasts (tail []) = [] from rfl, List.append_nil, run_cons, hs, if_neg (by simp), run_cons]
  by_cases he : (scan n true (words l)).e ≠ 0
  · rw [if_pos he, if_pos he]; simp
  · rw [if_neg he, if_neg he]; simp [run]
theorem scan_zero_v (n v : Int) (h0 : 0 ≤ v) (h1 : v ≤ 2147483647) (hn : 1 ≤ n) : scan n true (words (digs 0 ++ [32#8] ++ digs v)) = if n ≤ v then ⟨0, 0, false, 42, n, true⟩ else ⟨0, v, true, 0, n, true⟩ := by
  rw [words_two _ _ (digs_clean 0 (by omega)) (digs_clean v h0)]
  have ht : two (digs 0) (digs v) n = if n ≤ v then (0, 0, 42) else (0, v, 0) := by
    unfold two
    rw [num_digs 0 (by omega) (by omega), num_digs v h0 h1, if_neg (by simp)]
    by_cases h : n ≤ v
    · rw [if_pos (Or.inr h), if_pos h]
    · rw [if_neg (by simp; omega), if_neg h]
  unfold scan
  simp only [ht]
  by_cases h : n ≤ v
  · simp [h]
  · simp [h]
theorem num_zero_ahead (w : List By) (hw : w ≠ []) : num (48#8 :: w) = (0, false) := by
  unfold num
  rw [if_pos]
  cases w with
  | nil => exact absurd rfl hw
  | cons c r =>
    by_cases h : 10 < (48#8 :: c :: r : List By).length
    · exact Or.inr (Or.inl h)
    · exact Or.inr (Or.inr ⟨by simp, rfl⟩)
theorem scan_zero_zero (n v : Int) (h0 : 0 ≤ v) : scan n true (words (digs 0 ++ [32#8] ++ (48#8 :: digs v))) = ⟨0, 0, false, 40, n, true⟩ := by
  have hc := digs_clean v h0
  have hcl : clean (48#8 :: digs v) := ⟨by simp, fun c hcm => by
    rcases List.mem_cons.1 hcm with rfl | h
    · decide
    · exact hc.2 c h⟩
  rw [words_two _ _ (digs_clean 0 (by omega)) hcl]
  have ht : two (digs 0) (48#8 :: digs v) n = (0, 0, 40) := by
    unfold two
    rw [num_zero_ahead _ hc.1, if_pos (Or.inr rfl)]
  unfold scan
  simp only [ht]
  rfl
end Tx
end Go.Proofs.YtgoobadkbndfgaaDoor
