/- numbers and words there and back: plain -/
import Derived.Test.YtgoobadkbndfgaaDoorTxY
namespace Go.Proofs.YtgoobadkbndfgaaDoor
set_option linter.unusedSimpArgs false
set_option linter.unusedVariables false
namespace Tx
theorem valF_snoc (w : List By) (c : By) : valF 0 (w ++ [c]) = 10 * valF 0 w + (n8 c - 48) := by unfold valF; rw [List.foldl_append]; rfl
/-- The digits of a natural number. -/
theorem dec_facts : ∀ (u : Nat), (∀ c ∈ (Lib.decDigits u).map UInt8.toBitVec, isDig c = true) ∧ valF 0 ((Lib.decDigits u).map UInt8.toBitVec) = u ∧ Lib.decDigits u ≠ [] ∧
    (10 ≤ u → ∃ c r, (Lib.decDigits u).map UInt8.toBitVec = c :: r ∧ n8 c ≠ 48 ∧ r ≠ []) ∧ (u < 10 → 1 ≤ u → ∃ c, (Lib.decDigits u).map UInt8.toBitVec = [c] ∧ n8 c ≠ 48) := by
  intro u
  induction u using Nat.strongRecOn with
  | _ u ih =>
    have hone : ∀ x : Nat, x < 10 → n8 (UInt8.ofNat (48 + x)).toBitVec = 48 + x := by
      intro x hx
      unfold n8
      simp [UInt8.toNat_ofNat']; omega
    unfold Lib.decDigits
    by_cases h : u < 10
    · rw [dif_pos h]
      have e := hone u h
      refine ⟨?_, ?_, by simp, fun h2 => by omega, fun _ h2 => ⟨_, rfl, by rw [e]; omega⟩⟩
      · intro c hc
        simp only [List.map_cons, List.map_nil, List.mem_singleton] at hc
        subst hc
        unfold isDig; rw [e]; simp; omega
      · show valF 0 [_] = _
        unfold valF
        simp only [List.foldl_cons, List.foldl_nil]
        show 10 * 0 + (n8 (UInt8.ofNat (48 + u)).toBitVec - 48) = u
        rw [e]; omega
    · rw [dif_neg h]
      obtain ⟨h1, h2, h3, h4, h5⟩ := ih (u / 10) (by omega)
      have e := hone (u % 10) (by omega)
      rw [List.map_append]
      refine ⟨?_, ?_, by simp, ?_, fun h6 => by omega⟩
      · intro c hc
        rcases List.mem_append.1 hc with hc | hc
        · exact h1 c hc
        · simp only [List.map_cons, List.map_nil, List.mem_singleton] at hc
          subst hc
          unfold isDig; rw [e]; simp; omega
      · rw [show (List.map UInt8.toBitVec [UInt8.ofNat (48 + u % 10)]) = [(UInt8.ofNat (48 + u % 10)).toBitVec] from rfl, valF_snoc, h2, e]; omega
      · intro _
        by_cases h6 : u / 10 < 10
        · obtain ⟨c, hc, hn⟩ := h5 h6 (by omega)
          exact ⟨c, _, by rw [hc]; rfl, hn, by simp⟩
        · obtain ⟨c, r, hc, hn, hr⟩ := h4 (by omega)
          exact ⟨c, r ++ _, by rw [hc]; rfl, hn, by simp [hr]⟩
theorem dec_length : ∀ (k u : Nat), u < 10 ^ (k + 1) → (Lib.decDigits u).length ≤ k + 1
  | 0, u, h => by unfold Lib.decDigits; rw [dif_pos (by simpa using h)]; simp
  | k + 1, u, h => by
    unfold Lib.decDigits
    split
    · simp
    · have := dec_length k (u / 10) (by rw [Nat.pow_succ] at h; omega)
      simp; omega
/-- A number's digits say the number. -/
theorem num_digs (z : Int) (h0 : 0 ≤ z) (h1 : z ≤ 2147483647) : num (digs z) = (z, true) := by
  obtain ⟨u, rfl⟩ : ∃ u : Nat, z = u := ⟨z.toNat, by omega⟩
  have hd : digs (u : Int) = (Lib.decDigits u).map UInt8.toBitVec := by
    unfold digs; rw [show Lib.itoa (u : Int) = Lib.decDigits u by unfold Lib.itoa; rw [if_neg (by omega)]; simp]
  obtain ⟨f1, f2, f3, f4, f5⟩ := dec_facts u
  have hl := dec_length 9 u (by omega)
  rw [hd]
  have hlen : ((Lib.decDigits u).map UInt8.toBitVec).length = (Lib.decDigits u).length := by simp
  have hne : (Lib.decDigits u).length ≠ 0 := fun h => f3 (List.eq_nil_of_length_eq_zero h)
  unfold num
  rw [if_neg, if_pos (List.all_eq_true.2 f1), f2]
  · rw [decide_eq_true (by omega)]
  · rintro (h | h | ⟨h, h2⟩)
    · omega
    · omega
    · by_cases hu : u < 10
      · have : (Lib.decDigits u).length = 1 := by unfold Lib.decDigits; rw [dif_pos hu]; rfl
        omega
      · obtain ⟨c, r, hc, hn, _⟩ := f4 (by omega)
        rw [hc] at h2
        exact hn h2
/-- A word's bytes. -/
def clean (w : List By) : Prop := w ≠ [] ∧ ∀ c ∈ w, isHash c = false ∧ isBl c = false
theorem sS_clean : ∀ (w rest : List By) (f i : Nat), (∀ c ∈ w, isHash c = false ∧ isBl c = false) → (∀ c r, rest = c :: r → isHash c = true ∨ isBl c = true) → sS (some f) i (w ++ rest) = (f, i + w.length - f) :: sS none (i + w.length) rest
  | [], rest, f, i, _, hr => by simpa using sS_end f i rest hr
  | c :: w, rest, f, i, hw, hr => by
    have hc := hw c (by simp)
    rw [List.cons_append, sS_on f i c _ hc.1 hc.2, sS_clean w rest f (i + 1) (fun c h => hw c (by simp [h])) hr]
    simp only [List.length_cons]
    congr 2 <;> first | omega | (congr 1; omega)
theorem sS_word_clean (w rest : List By) (i : Nat) (hw : clean w) (hr : ∀ c r, rest = c :: r → isHash c = true ∨ isBl c = true) : sS none i (w ++ rest) = (i, w.length) :: sS none (i + w.length) rest := by
  obtain ⟨hne, hc⟩ := hw
  cases w with
  | nil => exact absurd rfl hne
  | cons c w =>
    have h1 := hc c (by simp)
    rw [List.cons_append, sS_word i c _ h1.1 h1.2, sS_clean w rest i (i + 1) (fun c h => hc c (by simp [h])) hr]
    simp only [List.length_cons]
    congr 2 <;> first | omega | (congr 1; omega)
theorem cutOut_mid (p w r : List By) : cutOut (p ++ w ++ r) (p.length, w.length) = w := by
  unfold cutOut
  simp [List.append_assoc]
theorem words_two (a b : List By) (ha : clean a) (hb : clean b) : words (a ++ [32#8] ++ b) = [a, b] := by
  have hs : spans (a ++ [32#8] ++ b) = [(0, a.length), (a.length + 1, b.length)] := by
    unfold spans
    rw [List.append_assoc, sS_word_clean a ([32#8] ++ b) 0 ha (by intro c r h; injection h with h; subst h; right; rfl)]
    rw [show ([32#8] ++ b : List By) = 32#8 :: b from rfl, sS_blank _ _ _ (by rfl) (by rfl)]
    have := sS_word_clean b [] (0 + a.length + 1) hb (by intro c r h; cases h)
    rw [List.append_nil] at this
    rw [this]
    simp [sS]
  unfold words
  rw [hs]
  simp [cutOut]
theorem words_three (a b c : List By) (ha : clean a) (hb : clean b) (hc : clean c) : words (a ++ [32#8] ++ b ++ [32#8] ++ c) = [a, b, c] := by
  have hs : spans (a ++ [32#8] ++ b ++ [32#8] ++ c) = [(0, a.length), (a.length + 1, b.length), (a.length + 1 + b.length + 1, c.length)] := by
    unfold spans
    rw [List.append_assoc, List.append_assoc, List.append_assoc, sS_word_clean a _ 0 ha (by intro c r h; injection h with h; subst h; right; rfl)]
    rw [show ([32#8] ++ (b ++ ([32#8] ++ c)) : List By) = 32#8 :: (b ++ ([32#8] ++ c)) from rfl, sS_blank _ _ _ (by rfl) (by rfl)]
    rw [sS_word_clean b ([32#8] ++ c) (0 + a.length + 1) hb (by intro c r h; injection h with h; subst h; right; rfl)]
    rw [show ([32#8] ++ c : List By) = 32#8 :: c from rfl, sS_blank _ _ _ (by rfl) (by rfl)]
    have := sS_word_clean c [] (0 + a.length + 1 + b.length + 1) hc (by intro c r h; cases h)
    rw [List.append_nil] at this
    rw [this]
    simp [sS]
  unfold words
  rw [hs]
  have e1 := cutOut_mid [] a ([32#8] ++ b ++ [32#8] ++ c)
  have e2 := cutOut_mid (a ++ [32#8]) b ([32#8] ++ c)
  have e3 := cutOut_mid (a ++ [32#8] ++ b ++ [32#8]) c []
  simp only [List.map_cons, List.map_nil]
  simp only [List.length_append, List.length_cons, List.length_nil, List.nil_append, List.append_nil, Nat.zero_add] at e1 e2 e3
  simp only [List.append_assoc] at e1 e2 e3 ⊢
  rw [e1, e2, e3]
end Tx
end Go.Proofs.YtgoobadkbndfgaaDoor
