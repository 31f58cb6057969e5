/- Rising lists as bytes: plain mathematics, no program. -/
import Derived.Test.YtmeoafodcniliaaGreatDoorVarM
namespace Go.Proofs.YtmeoafodcniliaaGreatDoor.Vi
set_option linter.unusedSimpArgs false
set_option linter.unusedVariables false
/-- Does a list rise from f on? -/
def rise : Int → List Int → Bool
  | _, [] => true
  | f, x :: t => decide (f ≤ x) && rise (x + 1) t
/-- The gaps' forms. -/
def gapsL : Int → List Int → List (BitVec 8)
  | _, [] => []
  | f, x :: t => form (x - f).toNat ++ gapsL (x + 1) t
def putOk (f : Int) (l : List Int) : Bool := decide (0 ≤ f) && rise f l
def putL (f : Int) (l : List Int) : List (BitVec 8) := if putOk f l = true then form l.length ++ gapsL f l else []
def putE (f : Int) (l : List Int) : Int := if putOk f l = true then 0 else 14
/-- k gaps read: the numbers, how many bytes they have, the error. -/
def rdG : Nat → Int → Int → List (BitVec 8) → List Int × Nat × Int
  | 0, _, _, _ => ([], 0, 0)
  | k + 1, f, bel, b => if numE b ≠ 0 then ([], 0, numE b) else if bel - f ≤ (numX b : Int) then ([], 0, 13) else
    if (rdG k (f + numX b + 1) bel (b.drop (numN b))).2.2 = 0 then ((f + numX b) :: (rdG k (f + numX b + 1) bel (b.drop (numN b))).1, numN b + (rdG k (f + numX b + 1) bel (b.drop (numN b))).2.1, 0)
    else ([], 0, (rdG k (f + numX b + 1) bel (b.drop (numN b))).2.2)
def rdL (f bel : Int) (b : List (BitVec 8)) : List Int × Nat × Int :=
  if f < 0 then ([], 0, 13) else if numE b ≠ 0 then ([], 0, numE b) else if 0 < numX b ∧ bel - f < (numX b : Int) then ([], 0, 13) else
  if (rdG (numX b) f bel (b.drop (numN b))).2.2 = 0 then ((rdG (numX b) f bel (b.drop (numN b))).1, numN b + (rdG (numX b) f bel (b.drop (numN b))).2.1, 0) else ([], 0, (rdG (numX b) f bel (b.drop (numN b))).2.2)
theorem rdG_err : ∀ (k : Nat) (f bel : Int) (b : List (BitVec 8)), (rdG k f bel b).2.2 ≠ 0 → (rdG k f bel b).1 = [] ∧ (rdG k f bel b).2.1 = 0
  | 0, _, _, _, h => absurd rfl h
  | k + 1, f, bel, b, h => by
    rw [rdG] at h ⊢
    split
    · exact ⟨rfl, rfl⟩
    · split
      · exact ⟨rfl, rfl⟩
      · split
        · rename_i h1 h2 h3; rw [if_neg h1, if_neg h2, if_pos h3] at h; exact absurd rfl h
        · exact ⟨rfl, rfl⟩
theorem rdG_cases : ∀ (k : Nat) (f bel : Int) (b : List (BitVec 8)), (rdG k f bel b).2.2 = 0 ∨ (rdG k f bel b).2.2 = 10 ∨ (rdG k f bel b).2.2 = 11 ∨ (rdG k f bel b).2.2 = 12 ∨ (rdG k f bel b).2.2 = 13
  | 0, _, _, _ => Or.inl rfl
  | k + 1, f, bel, b => by
    rw [rdG]
    split
    · rename_i h
      rcases numE_cases b with h1 | h1 | h1 | h1 <;> simp_all
    · split
      · simp
      · split
        · simp
        · exact rdG_cases k _ bel _
theorem rdL_err (f bel : Int) (b : List (BitVec 8)) (h : (rdL f bel b).2.2 ≠ 0) : (rdL f bel b).1 = [] ∧ (rdL f bel b).2.1 = 0 := by
  unfold rdL at h ⊢
  split
  · exact ⟨rfl, rfl⟩
  · split
    · exact ⟨rfl, rfl⟩
    · split
      · exact ⟨rfl, rfl⟩
      · split
        · rename_i h1 h2 h3 h4; rw [if_neg h1, if_neg h2, if_neg h3, if_pos h4] at h; exact absurd rfl h
        · exact ⟨rfl, rfl⟩
theorem rdL_cases (f bel : Int) (b : List (BitVec 8)) : (rdL f bel b).2.2 = 0 ∨ (rdL f bel b).2.2 = 10 ∨ (rdL f bel b).2.2 = 11 ∨ (rdL f bel b).2.2 = 12 ∨ (rdL f bel b).2.2 = 13 := by
  unfold rdL
  split
  · simp
  · split
    · rename_i h
      rcases numE_cases b with h1 | h1 | h1 | h1 <;> simp_all
    · split
      · simp
      · split
        · simp
        · exact rdG_cases _ _ _ _
theorem rdG_len : ∀ (k : Nat) (f bel : Int) (b : List (BitVec 8)), (rdG k f bel b).2.1 ≤ b.length ∧ (rdG k f bel b).1.length ≤ (rdG k f bel b).2.1
  | 0, _, _, _ => ⟨Nat.zero_le _, Nat.le_refl _⟩
  | k + 1, f, bel, b => by
    rw [rdG]
    split
    · exact ⟨Nat.zero_le _, Nat.le_refl _⟩
    · rename_i h0
      split
      · exact ⟨Nat.zero_le _, Nat.le_refl _⟩
      · split
        · have := rdG_len k (f + numX b + 1) bel (b.drop (numN b))
          have h1 := (numN_le b).1
          have h2 := numN_pos (Decidable.not_not.1 h0)
          rw [List.length_drop] at this
          simp only [List.length_cons]; omega
        · exact ⟨Nat.zero_le _, Nat.le_refl _⟩
theorem rdL_len (f bel : Int) (b : List (BitVec 8)) : (rdL f bel b).2.1 ≤ b.length ∧ (rdL f bel b).1.length ≤ (rdL f bel b).2.1 := by
  unfold rdL
  split
  · exact ⟨Nat.zero_le _, Nat.le_refl _⟩
  · split
    · exact ⟨Nat.zero_le _, Nat.le_refl _⟩
    · split
      · exact ⟨Nat.zero_le _, Nat.le_refl _⟩
      · split
        · have := rdG_len (numX b) f bel (b.drop (numN b))
          have h1 := (numN_le b).1
          rw [List.length_drop] at this
          simp only; omega
        · exact ⟨Nat.zero_le _, Nat.le_refl _⟩
/-- What was put is read: just if each number is less. -/
theorem rdG_put : ∀ (l : List Int) (f bel : Int) (r : List (BitVec 8)), rise f l = true → (∀ x ∈ l, x - f < 9223372036854775808) →
    rdG l.length f bel (gapsL f l ++ r) = if (∀ x ∈ l, x < bel) then (l, (gapsL f l).length, 0) else ([], 0, 13)
  | [], f, bel, r, _, _ => by simp [rdG, gapsL]
  | x :: t, f, bel, r, hr, hb => by
    simp only [rise, Bool.and_eq_true, decide_eq_true_eq] at hr
    obtain ⟨h1, h2⟩ := hr
    have hx := hb x (by simp)
    obtain ⟨e1, e2, e3⟩ := form_num (x - f).toNat (gapsL (x + 1) t ++ r) (by omega)
    have hxx : f + ((x - f).toNat : Int) = x := by omega
    have hd : (form (x - f).toNat ++ (gapsL (x + 1) t ++ r)).drop (len (x - f).toNat) = gapsL (x + 1) t ++ r := List.drop_left' (form_length _)
    rw [List.length_cons, gapsL, List.append_assoc, rdG, e1, e2, e3, hd, hxx, if_neg (by simp)]
    by_cases hlt : x < bel
    · rw [if_neg (by omega), rdG_put t (x + 1) bel r h2 (fun y hy => by have := hb y (by simp [hy]); omega)]
      by_cases hall : ∀ y ∈ t, y < bel
      · rw [if_pos hall, if_pos rfl, if_pos (by intro y hy; simp at hy; rcases hy with rfl | hy; exact hlt; exact hall y hy)]
        simp [form_length]
      · rw [if_neg hall, if_neg (by decide), if_neg (fun h => hall fun y hy => h y (by simp [hy]))]
    · rw [if_pos (by omega), if_neg (fun h => hlt (h x (by simp)))]
theorem rise_len : ∀ (l : List Int) (f bel : Int), rise f l = true → (∀ x ∈ l, x < bel) → l = [] ∨ (l.length : Int) ≤ bel - f
  | [], f, bel, _, _ => Or.inl rfl
  | x :: t, f, bel, hr, hb => by
    simp only [rise, Bool.and_eq_true, decide_eq_true_eq] at hr
    have hx := hb x (by simp)
    right
    rcases rise_len t (x + 1) bel hr.2 (fun y hy => hb y (by simp [hy])) with rfl | h
    · simp; omega
    · simp only [List.length_cons]; omega
theorem rdL_put (l : List Int) (f bel : Int) (r : List (BitVec 8)) (h0 : putOk f l = true) (hl : l.length < 9223372036854775808) (hb : ∀ x ∈ l, x < 9223372036854775808) :
    rdL f bel (putL f l ++ r) = if (∀ x ∈ l, x < bel) then (l, (putL f l).length, 0) else ([], 0, 13) := by
  unfold putL; rw [if_pos h0]
  simp only [putOk, Bool.and_eq_true, decide_eq_true_eq] at h0
  obtain ⟨h1, h2⟩ := h0
  obtain ⟨e1, e2, e3⟩ := form_num l.length (gapsL f l ++ r) hl
  have hd : (form l.length ++ (gapsL f l ++ r)).drop (len l.length) = gapsL f l ++ r := List.drop_left' (form_length _)
  have hg := rdG_put l f bel r h2 (fun x hx => by have := hb x hx; omega)
  unfold rdL
  rw [List.append_assoc, if_neg (by omega), e1, e2, e3, hd, if_neg (by simp), hg]
  by_cases hall : ∀ x ∈ l, x < bel
  · rw [if_pos hall]
    rw [if_neg (by
      rintro ⟨a, b⟩
      rcases rise_len l f bel h2 hall with rfl | h
      · simp at a
      · omega)]
    simp [form_length]
    exact hall
  · rw [if_neg hall]
    split
    · rfl
    · simp
/-- What is passed over is what was put. -/
theorem rdG_form : ∀ (k : Nat) (f bel : Int) (b : List (BitVec 8)), (rdG k f bel b).2.2 = 0 → (rdG k f bel b).1.length = k ∧ rise f (rdG k f bel b).1 = true ∧ b.take (rdG k f bel b).2.1 = gapsL f (rdG k f bel b).1 ∧ ∀ x ∈ (rdG k f bel b).1, f ≤ x ∧ x < bel
  | 0, f, bel, b, _ => ⟨rfl, rfl, by simp [rdG, gapsL], by simp [rdG]⟩
  | k + 1, f, bel, b, h => by
    rw [rdG] at h ⊢
    split at h
    · rename_i h1; exact absurd h h1
    · rename_i h1
      split at h
      · cases h
      · rename_i h2
        split at h
        · rename_i h3
          rw [if_neg h1, if_neg h2, if_pos h3]
          obtain ⟨i1, i2, i3, i4⟩ := rdG_form k (f + numX b + 1) bel (b.drop (numN b)) h3
          obtain ⟨f1, f2⟩ := num_form (Decidable.not_not.1 h1)
          refine ⟨by simp [i1], ?_, ?_, ?_⟩
          · simp only [rise, Bool.and_eq_true, decide_eq_true_eq]; exact ⟨by omega, i2⟩
          · rw [List.take_add, f1, i3]
            show _ = form (f + (numX b : Int) - f).toNat ++ _
            rw [show (f + (numX b : Int) - f).toNat = numX b by omega]
          · intro x hx
            simp only [List.mem_cons] at hx
            rcases hx with rfl | hx
            · omega
            · have := i4 x hx; omega
        · rename_i h3; exact absurd h h3
theorem rdL_form (f bel : Int) (b : List (BitVec 8)) (h : (rdL f bel b).2.2 = 0) : putOk f (rdL f bel b).1 = true ∧ b.take (rdL f bel b).2.1 = putL f (rdL f bel b).1 ∧ 1 ≤ (rdL f bel b).2.1 ∧ ∀ x ∈ (rdL f bel b).1, f ≤ x ∧ x < bel := by
  unfold rdL at h ⊢
  split at h
  · cases h
  · rename_i h1
    split at h
    · rename_i h2; exact absurd h h2
    · rename_i h2
      split at h
      · cases h
      · rename_i h3
        split at h
        · rename_i h4
          rw [if_neg h1, if_neg h2, if_neg h3, if_pos h4]
          obtain ⟨i1, i2, i3, i4⟩ := rdG_form _ f bel (b.drop (numN b)) h4
          obtain ⟨f1, f2⟩ := num_form (Decidable.not_not.1 h2)
          have hp : putOk f (rdG (numX b) f bel (b.drop (numN b))).1 = true := by
            simp only [putOk, Bool.and_eq_true, decide_eq_true_eq]; exact ⟨by omega, i2⟩
          refine ⟨hp, ?_, ?_, i4⟩
          · unfold putL; rw [if_pos hp, List.take_add, f1, i3, i1]
          · show 1 ≤ numN b + _
            have := numN_pos (Decidable.not_not.1 h2); omega
        · rename_i h4; exact absurd h h4
end Go.Proofs.YtmeoafodcniliaaGreatDoor.Vi
