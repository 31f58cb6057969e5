/- a fault's line: plain -/
import Derived.Test.YtgoobadkbndfgaaDoorRfM
import Derived.Test.YtgoobadkbndfgaaDoorTxB
namespace Go.Proofs.YtgoobadkbndfgaaDoor
set_option linter.unusedSimpArgs false
set_option linter.unusedVariables false
namespace Tx
/-- How many of the first j lines have words. -/
def spokenN (ls : List (List By)) (j : Nat) : Nat := ((ls.take j).filter fun l => decide (words l ≠ [])).length
theorem spokenN_le (ls : List (List By)) (j : Nat) : spokenN ls j ≤ j := by
  unfold spokenN
  exact Nat.le_trans (List.length_filter_le _ _) (by simp; omega)
theorem spokenN_succ {ls : List (List By)} {j : Nat} {l : List By} (h : ls[j]? = some l) : spokenN ls (j + 1) = spokenN ls j + if words l ≠ [] then 1 else 0 := by
  unfold spokenN
  rw [List.take_add_one, h, List.filter_append, List.length_append]
  congr 1
  by_cases hw : words l = []
  · simp [hw]
  · simp [hw]
theorem spokenN_ge {ls : List (List By)} {j : Nat} (h : ls.length ≤ j) : spokenN ls j = spokenN ls ls.length := by
  unfold spokenN; rw [List.take_of_length_le h, List.take_of_length_le (Nat.le_refl _)]
theorem spokenN_none {ls : List (List By)} (h : ∀ l ∈ ls, words l = []) (j : Nat) : spokenN ls j = 0 := by
  unfold spokenN
  rw [List.length_eq_zero_iff, List.filter_eq_nil_iff]
  intro l hl
  simp [h l (List.mem_of_mem_take hl)]
theorem scan_begun_of (n : Int) (ws : List (List By)) (hw : ws ≠ []) (h : (scan n false ws).e = 0) : (scan n false ws).begun = true := by
  match ws, hw, h with
  | [a], _, h => exact absurd h (by simp [scan])
  | [a, b], _, h =>
    unfold scan at h ⊢
    dsimp only at h ⊢
    rw [if_neg (by simp)] at h ⊢
    by_cases h1 : a ≠ vertices ∨ (num b).2 = false
    · rw [if_pos h1] at h; exact absurd (show (40 : Int) = 0 from h) (by decide)
    · rw [if_neg h1] at h ⊢
      by_cases h2 : 16777216 < (num b).1
      · rw [if_pos h2] at h; exact absurd (show (41 : Int) = 0 from h) (by decide)
      · rw [if_neg h2]
  | a :: b :: c :: r, _, h => exact absurd h (by simp [scan])
theorem scan_nil_of {n : Int} {ws : List (List By)} (h : (scan n false ws).e = 0) (hb : (scan n false ws).begun = false) : ws = [] := by
  by_cases hw : ws = []
  · exact hw
  · rw [scan_begun_of n ws hw h] at hb; cases hb
theorem run_begun : ∀ (n : Int) (ls : List (List By)), (run n true ls).begun = true
  | n, [] => rfl
  | n, l :: ls => by
    rw [run_cons]
    have hb : ∀ ws, (scan n true ws).begun = true := fun ws => by
      match ws with
      | [] => rfl
      | [a] => rfl
      | [a, b] => rfl
      | a :: b :: c :: r => rfl
    split
    · exact hb _
    · show (run _ _ _).begun = true
      rw [hb]; exact run_begun _ ls
theorem run_silent : ∀ (n : Int) (ls : List (List By)), (run n false ls).e = 0 → (run n false ls).begun = false → ∀ l ∈ ls, words l = []
  | n, [], _, _, l, hl => by cases hl
  | n, x :: ls, he, hb, l, hl => by
    rw [run_cons] at he hb
    by_cases h : (scan n false (words x)).e ≠ 0
    · rw [if_pos h] at he; exact absurd he h
    · rw [if_neg h] at he hb
      dsimp only at he hb
      have h0 : (scan n false (words x)).e = 0 := by simpa using h
      cases hs : (scan n false (words x)).begun with
      | true => rw [hs, run_begun] at hb; cases hb
      | false =>
        have hw := scan_nil_of h0 hs
        rcases List.mem_cons.1 hl with h1 | h1
        · rw [h1]; exact hw
        · rw [hs] at he hb
          exact run_silent _ ls he hb l h1
theorem scan_words {n : Int} {b : Bool} {ws : List (List By)} (h : (scan n b ws).e ≠ 0) : ws ≠ [] := by
  rintro rfl; exact h rfl
theorem run_fault_at : ∀ (n : Int) (b : Bool) (ls : List (List By)), (run n b ls).e ≠ 0 → 1 ≤ (run n b ls).k ∧ (run n b ls).k ≤ ls.length ∧ (run n b (ls.take ((run n b ls).k - 1))).e = 0 ∧
    (∀ rest, (run n b (ls.take (run n b ls).k ++ rest)).e = (run n b ls).e ∧ (run n b (ls.take (run n b ls).k ++ rest)).k = (run n b ls).k) ∧ ∃ l, ls[(run n b ls).k - 1]? = some l ∧ words l ≠ []
  | n, b, [], h => absurd rfl h
  | n, b, l :: ls, h => by
    rw [run_cons] at h ⊢
    by_cases hs : (scan n b (words l)).e ≠ 0
    · rw [if_pos hs] at h ⊢
      dsimp only
      refine ⟨Nat.le_refl _, by simp, rfl, fun rest => ?_, l, rfl, scan_words hs⟩
      show (run n b (l :: ([] ++ rest))).e = _ ∧ (run n b (l :: ([] ++ rest))).k = _
      rw [run_cons, if_pos hs]
      exact ⟨rfl, rfl⟩
    · rw [if_neg hs] at h ⊢
      dsimp only at h ⊢
      obtain ⟨h1, h2, h3, h4, l', h5, h6⟩ := run_fault_at _ _ ls h
      generalize hk : (run (scan n b (words l)).n (scan n b (words l)).begun ls).k = k at *
      refine ⟨by omega, by simp; omega, ?_, fun rest => ?_, l', ?_, h6⟩
      · rw [show k + 1 - 1 = (k - 1) + 1 by omega, List.take_succ_cons, run_cons, if_neg hs]
        exact h3
      · rw [List.take_succ_cons, List.cons_append, run_cons, if_neg hs]
        obtain ⟨h7, h8⟩ := h4 rest
        exact ⟨h7, by dsimp only; rw [h8]⟩
      · rw [show k + 1 - 1 = (k - 1) + 1 by omega]; simpa using h5
/-! places of lines -/
theorem lines_append {x : List By} (y : List By) (h : tail x = []) : lines (x ++ y) = lines x ++ lines y ∧ tail (x ++ y) = tail y := by
  unfold lines
  rw [whole_append, tail_append, h, List.nil_append]
  refine ⟨?_, rfl⟩
  simp [lasts, List.append_assoc]
theorem lines_one {l : List By} (h : ∀ (j : Nat) d, l[j]? = some d → n8 d ≠ 10) : lines (l ++ [10#8]) = [l] ∧ tail (l ++ [10#8]) = [] := by
  have hi : nlIdx (l ++ [10#8]) = some l.length := by
    refine nlIdx_at _ _ (10#8) ?_ (by simp) (by decide)
    intro j hj d hd
    rw [List.getElem?_append_left hj] at hd
    exact h j d hd
  have hd : (l ++ [10#8]).drop (l.length + 1) = [] := by simp
  refine ⟨?_, ?_⟩
  · rw [lines_some hi, hd]; simp [lines_nil]
  · rw [(whole_some hi).2, hd]; rfl
/-- A line begins at f; the lines ahead of it. -/
structure At (b : List By) (f : Nat) (pre : List (List By)) : Prop where
  le : f ≤ b.length
  tail : tail (b.take f) = []
  head : lines (b.take f) = pre
  all : lines b = pre ++ lines (b.drop f)
theorem At.zero (b : List By) : At b 0 [] := ⟨by omega, rfl, rfl, rfl⟩
theorem take_piece (b : List By) {f a : Nat} (hf : f ≤ a) : b.take a = b.take f ++ (b.drop f).take (a - f) := by
  rw [← List.take_append_drop f (b.take a), List.take_take, List.drop_take, Nat.min_eq_left hf]
theorem piece_no {b : List By} {f a : Nat} (h : NoNl b f a) : ∀ (j : Nat) d, ((b.drop f).take (a - f))[j]? = some d → n8 d ≠ 10 := by
  intro j d hd
  rw [List.getElem?_take] at hd
  split at hd
  · rw [List.getElem?_drop] at hd
    exact h (f + j) d (by omega) (by omega) hd
  · cases hd
theorem At.next {b : List By} {f a : Nat} {pre : List (List By)} {c : By} (h : At b f pre) (hno : NoNl b f a) (hf : f ≤ a) (hc : b[a]? = some c) (h10 : n8 c = 10) : At b (a + 1) (pre ++ [(b.drop f).take (a - f)]) := by
  have hal : a < b.length := (List.getElem?_eq_some_iff.1 hc).1
  have hc10 : c = 10#8 := n8_inj h10
  have ht : b.take (a + 1) = b.take f ++ ((b.drop f).take (a - f) ++ [10#8]) := by
    rw [List.take_add_one, hc, take_piece b hf, List.append_assoc, hc10]; rfl
  obtain ⟨h1, h2⟩ := lines_append (x := b.take f) ((b.drop f).take (a - f) ++ [10#8]) h.tail
  obtain ⟨h3, h4⟩ := lines_one (piece_no hno)
  refine ⟨by omega, ?_, ?_, ?_⟩
  · rw [ht, h2, h4]
  · rw [ht, h1, h3, h.head]
  · rw [h.all, lines_at hno hf hc h10, List.append_assoc]; rfl
/-- The text up to a line's end, a newline, any tail. -/
theorem At.cut {b : List By} {f e : Nat} {pre : List (List By)} (h : At b f pre) (hno : NoNl b f e) (hf : f ≤ e) (tl : List By) : lines (b.take e ++ [10#8] ++ tl) = (pre ++ [(b.drop f).take (e - f)]) ++ lines tl := by
  obtain ⟨h1, h2⟩ := lines_append (x := b.take f) ((b.drop f).take (e - f) ++ [10#8]) h.tail
  obtain ⟨h3, h4⟩ := lines_one (piece_no hno)
  have ht : b.take e ++ [10#8] = b.take f ++ ((b.drop f).take (e - f) ++ [10#8]) := by rw [take_piece b hf, List.append_assoc]
  rw [ht]
  rw [(lines_append tl (by rw [h2, h4])).1, h1, h3, h.head]
/-- The line itself. -/
theorem At.line {b : List By} {f e : Nat} {pre : List (List By)} (h : At b f pre) (hno : NoNl b f e) (hf : f ≤ e) (he : e = b.length ∨ ∃ c, b[e]? = some c ∧ n8 c = 10) (hl : pre.length < (lines b).length) : (lines b)[pre.length]? = some ((b.drop f).take (e - f)) := by
  have hL := h.all
  rcases he with he | ⟨c, hc, h10⟩
  · have hle := lines_end hno (by omega)
    rw [hle] at hL
    have hne : b.drop f ≠ [] := by
      intro h0
      rw [hL, h0] at hl
      simp [lasts] at hl
    rw [hL]
    unfold lasts
    rw [if_neg hne, List.getElem?_append_right (Nat.le_refl _), Nat.sub_self]
    rw [List.take_of_length_le (by rw [List.length_drop]; omega)]
    rfl
  · rw [hL, lines_at hno hf hc h10, List.getElem?_append_right (Nat.le_refl _), Nat.sub_self]; rfl
/-- There is one more line just if the text goes on. -/
theorem At.more {b : List By} {f a : Nat} {pre : List (List By)} (h : At b f pre) (hno : NoNl b f a) (ha : b.length ≤ a) : (lines b).length ≤ pre.length + 1 := by
  rw [h.all, lines_end hno ha, List.length_append]
  unfold lasts; split <;> simp
end Tx
end Go.Proofs.YtgoobadkbndfgaaDoor
