/- the reference's lines and words: plain -/
import Derived.Test.YtgoobadkbndfgaaDoorTxH
namespace Go.Proofs.YtgoobadkbndfgaaDoor
set_option linter.unusedSimpArgs false
set_option linter.unusedVariables false
namespace Tx
theorem lines_nil : lines [] = [] := rfl
theorem lines_none {t : List By} (h : nlIdx t = none) : lines t = lasts t := by
  unfold lines; rw [(whole_none h).1, (whole_none h).2]; rfl
theorem lines_some {t : List By} {i : Nat} (h : nlIdx t = some i) : lines t = t.take i :: lines (t.drop (i + 1)) := by
  unfold lines; rw [(whole_some h).1, (whole_some h).2]; rfl
theorem nlIdx_at : ∀ (t : List By) (k : Nat) (c : By), (∀ j, j < k → ∀ d, t[j]? = some d → n8 d ≠ 10) → t[k]? = some c → n8 c = 10 → nlIdx t = some k
  | [], k, c, _, h, _ => by simp at h
  | d :: r, 0, c, _, h, hc => by
    simp at h; subst h; unfold nlIdx; rw [if_pos hc]
  | d :: r, k + 1, c, hn, h, hc => by
    have h0 := hn 0 (by omega) d rfl
    unfold nlIdx
    rw [if_neg h0, nlIdx_at r k c (fun j hj e he => hn (j + 1) (by omega) e (by simpa using he)) (by simpa using h) hc]; rfl
theorem nlIdx_no : ∀ (t : List By), (∀ (j : Nat) (d : By), t[j]? = some d → n8 d ≠ 10) → nlIdx t = none
  | [], _ => rfl
  | d :: r, hn => by
    unfold nlIdx
    rw [if_neg (hn 0 d rfl), nlIdx_no r (fun j e he => hn (j + 1) e (by simpa using he))]; rfl
/-- No newline from a place up to another one. -/
def NoNl (b : List By) (f i : Nat) : Prop := ∀ j d, f ≤ j → j < i → b[j]? = some d → n8 d ≠ 10
theorem NoNl.more {b : List By} {f i : Nat} (h : NoNl b f i) {c : By} (hc : b[i]? = some c) (hne : n8 c ≠ 10) : NoNl b f (i + 1) := by
  intro j d h1 h2 h3
  by_cases hj : j = i
  · subst hj; rw [hc] at h3; injection h3 with h3; subst h3; exact hne
  · exact h j d h1 (by omega) h3
theorem NoNl.start (b : List By) (i : Nat) : NoNl b i i := fun j d h1 h2 => by omega
theorem lines_at {b : List By} {f i : Nat} {c : By} (h : NoNl b f i) (hf : f ≤ i) (hc : b[i]? = some c) (hn : n8 c = 10) : lines (b.drop f) = (b.drop f).take (i - f) :: lines (b.drop (i + 1)) := by
  have h1 : nlIdx (b.drop f) = some (i - f) := by
    refine nlIdx_at _ _ c ?_ ?_ hn
    · intro j hj d hd
      rw [List.getElem?_drop] at hd
      exact h (f + j) d (by omega) (by omega) hd
    · rw [List.getElem?_drop, show f + (i - f) = i by omega]; exact hc
  rw [lines_some h1, List.drop_drop, show f + (i - f + 1) = i + 1 by omega]
theorem lines_end {b : List By} {f i : Nat} (h : NoNl b f i) (hi : b.length ≤ i) : lines (b.drop f) = lasts (b.drop f) := by
  refine lines_none (nlIdx_no _ ?_)
  intro j d hd
  rw [List.getElem?_drop] at hd
  have : f + j < b.length := (List.getElem?_eq_some_iff.1 hd).1
  exact h (f + j) d (by omega) (by omega) hd
theorem lines_length : ∀ (k : Nat) (b : List By), b.length ≤ k → (lines b).length ≤ b.length
  | 0, b, h => by
    have : b = [] := List.eq_nil_of_length_eq_zero (by omega)
    subst this; simp [lines_nil]
  | k + 1, b, h => by
    cases hi : nlIdx b with
    | none =>
      rw [lines_none hi]
      unfold lasts
      by_cases hb : b = []
      · subst hb; simp
      · rw [if_neg hb]
        have := List.length_pos_iff.2 hb
        simp; omega
    | some i =>
      have hl := nlIdx_lt hi
      rw [lines_some hi]
      have := lines_length k (b.drop (i + 1)) (by simp; omega)
      simp at this ⊢; omega
theorem line_length : ∀ (k : Nat) (b : List By), b.length ≤ k → ∀ l ∈ lines b, l.length ≤ b.length
  | 0, b, h, l, hl => by
    have : b = [] := List.eq_nil_of_length_eq_zero (by omega)
    subst this; simp [lines_nil] at hl
  | k + 1, b, h, l, hl => by
    cases hi : nlIdx b with
    | none =>
      rw [lines_none hi] at hl
      unfold lasts at hl
      split at hl
      · cases hl
      · simp at hl; subst hl; omega
    | some i =>
      have hlt := nlIdx_lt hi
      rw [lines_some hi] at hl
      rcases List.mem_cons.1 hl with h1 | h1
      · subst h1; simp; omega
      · have := line_length k (b.drop (i + 1)) (by simp; omega) l h1
        simp at this; omega
/-- Where a word has begun, or would. -/
def wst (f i : Nat) : Option Nat := if f < i then some f else none
theorem wst_lt {f i : Nat} (h : f < i) : wst f i = some f := by unfold wst; rw [if_pos h]
theorem wst_ge {f i : Nat} (h : ¬ f < i) : wst f i = none := by unfold wst; rw [if_neg h]
/-- One sign more. -/
theorem sS_blank_w {f i : Nat} {c : By} {r : List By} (hf : f < i) (h : isHash c = false) (hb : isBl c = true) : sS (wst f i) i (c :: r) = (f, i - f) :: sS (wst (i + 1) (i + 1)) (i + 1) r := by
  rw [wst_lt hf, wst_ge (by omega)]; simp [sS, h, hb]
theorem sS_blank_n {f i : Nat} {c : By} {r : List By} (hf : ¬ f < i) (h : isHash c = false) (hb : isBl c = true) : sS (wst f i) i (c :: r) = sS (wst (i + 1) (i + 1)) (i + 1) r := by
  rw [wst_ge hf, wst_ge (by omega)]; simp [sS, h, hb]
theorem sS_letter {f i : Nat} {c : By} {r : List By} (hf : f ≤ i) (h : isHash c = false) (hb : isBl c = false) : sS (wst f i) i (c :: r) = sS (wst f (i + 1)) (i + 1) r := by
  rw [wst_lt (show f < i + 1 by omega)]
  by_cases h1 : f < i
  · rw [wst_lt h1]; simp [sS, h, hb]
  · rw [wst_ge h1, show f = i by omega]; simp [sS, h, hb]
theorem sS_stop_w {f i : Nat} {r : List By} (hf : f < i) (h : ∀ c r', r = c :: r' → isHash c = true) : sS (wst f i) i r = [(f, i - f)] := by
  rw [wst_lt hf]
  cases r with
  | nil => rfl
  | cons c r => simp [sS, h c r rfl]
theorem sS_stop_n {f i : Nat} {r : List By} (hf : ¬ f < i) (h : ∀ c r', r = c :: r' → isHash c = true) : sS (wst f i) i r = [] := by
  rw [wst_ge hf]
  cases r with
  | nil => rfl
  | cons c r => simp [sS, h c r rfl]
end Tx
/-- A line as a string. -/
abbrev SS (l : List (BitVec 8)) : Value := .string (strOf l)
theorem strOf_extract (l : List (BitVec 8)) (f i : Nat) (h : i ≤ l.length) : (strOf l).extract f i = strOf ((l.drop f).take (i - f)) := by
  have h1 := Lib.extract_data (strOf l) f i
  apply ByteArray.ext
  apply Array.ext'
  rw [h1]
  simp [strOf, List.map_take, List.map_drop]
end Go.Proofs.YtgoobadkbndfgaaDoor
