/- printed changes read back: plain -/
import Derived.Test.YtgoobadkbndfgaaDoorTxAa
namespace Go.Proofs.YtgoobadkbndfgaaDoor
set_option linter.unusedSimpArgs false
set_option linter.unusedVariables false
namespace Tx
def lineC (c : Ch) : List By := sign c.gone ++ [32#8] ++ digs c.u ++ [32#8] ++ digs c.v
def textC (cs : List Ch) : List By := cs.flatMap fun c => lineC c ++ [10#8]
theorem pcF_ok : ∀ (cs : List Ch) (bs : List By), (∀ c ∈ cs, ¬ badC c) → pcF bs cs = (bs ++ textC cs, 0)
  | [], bs, _ => by simp [pcF, textC]
  | c :: cs, bs, h => by
    rw [pcF, if_neg (h c (by simp)), rowF_change, pcF_ok cs _ (fun d hd => h d (by simp [hd]))]
    simp [textC, lineC, List.append_assoc]
theorem pcF_bad : ∀ (cs : List Ch) (bs : List By), (∃ c ∈ cs, badC c) → pcF bs cs = ([], 42)
  | [], bs, h => by obtain ⟨c, hc, _⟩ := h; cases hc
  | c :: cs, bs, h => by
    rw [pcF]
    by_cases hb : badC c
    · rw [if_pos hb]
    · rw [if_neg hb]
      refine pcF_bad cs _ ?_
      obtain ⟨d, hd, hbd⟩ := h
      rcases List.mem_cons.1 hd with rfl | hd
      · exact absurd hbd hb
      · exact ⟨d, hd, hbd⟩
theorem sign_clean (g : Bool) : clean (sign g) := by cases g <;> exact ⟨by decide, by decide⟩
theorem noNl_sign (g : Bool) : noNl (sign g) := by unfold noNl; cases g <;> decide
theorem good_pos {c : Ch} (h : ¬ badC c) : 0 ≤ c.u ∧ 0 ≤ c.v ∧ c.u ≤ 2147483647 ∧ c.v ≤ 2147483647 := by unfold badC at h; omega
theorem whole_textC : ∀ (cs : List Ch), (∀ c ∈ cs, ¬ badC c) → whole (textC cs) = cs.map lineC ∧ tail (textC cs) = []
  | [], _ => ⟨rfl, rfl⟩
  | c :: cs, h => by
    have hp := good_pos (h c (by simp))
    have e : textC (c :: cs) = lineC c ++ 10#8 :: textC cs := by simp [textC]
    obtain ⟨h1, h2⟩ := whole_line (lineC c) (textC cs) (noNl_append (noNl_append (noNl_append (noNl_append (noNl_sign _) noNl_blank) (digs_noNl _ hp.1)) noNl_blank) (digs_noNl _ hp.2.1))
    obtain ⟨h3, h4⟩ := whole_textC cs (fun q hq => h q (by simp [hq]))
    rw [e, h1, h2, h3, h4]
    exact ⟨rfl, rfl⟩
theorem words_lineC (c : Ch) (h : ¬ badC c) : words (lineC c) = [sign c.gone, digs c.u, digs c.v] := by
  have hp := good_pos h
  exact words_three _ _ _ (sign_clean _) (digs_clean _ hp.1) (digs_clean _ hp.2.1)
theorem change_lineC (n : Int) (c : Ch) (h : ¬ badC c) : change (words (lineC c)) n = if n ≤ c.u ∨ n ≤ c.v then ⟨0, 0, c.gone, 42⟩ else ⟨c.u, c.v, c.gone, 0⟩ := by
  have hp := good_pos h
  rw [words_lineC c h]
  have ht : two (digs c.u) (digs c.v) n = if n ≤ c.u ∨ n ≤ c.v then (0, 0, 42) else (c.u, c.v, 0) := by
    unfold two
    rw [num_digs _ hp.1 hp.2.2.1, num_digs _ hp.2.1 hp.2.2.2, if_neg (by simp)]
  unfold change
  simp only [ht]
  have hs : sign c.gone = [43#8] ∨ sign c.gone = [45#8] := by cases c.gone <;> simp [sign]
  rw [if_pos hs]
  have hd : decide (sign c.gone = [45#8]) = c.gone := by cases c.gone <;> decide
  rw [hd]
  split <;> rfl
theorem chRun_all (n : Int) : ∀ (cs : List Ch), (∀ c ∈ cs, ¬ badC c) → (∀ c ∈ cs, ¬ (n ≤ c.u ∨ n ≤ c.v)) → (chRun n (cs.map lineC ++ [[]])).e = 0 ∧ (chRun n (cs.map lineC ++ [[]])).cs.map Ch.tr = cs.map Ch.tr
  | [], _, _ => ⟨rfl, rfl⟩
  | c :: cs, h, h2 => by
    have hw : words (lineC c) ≠ [] := by rw [words_lineC c (h c (by simp))]; simp
    have hc := change_lineC n c (h c (by simp))
    rw [if_neg (h2 c (by simp))] at hc
    obtain ⟨i1, i2⟩ := chRun_all n cs (fun d hd => h d (by simp [hd])) (fun d hd => h2 d (by simp [hd]))
    rw [List.map_cons, List.cons_append, chRun_says hw (by rw [hc]), hc]
    refine ⟨i1, ?_⟩
    rw [List.map_cons, List.map_cons, i2]
    rfl
theorem chRun_first (n : Int) : ∀ (cs : List Ch) (i : Nat) (d : Ch), (∀ c ∈ cs, ¬ badC c) → cs[i]? = some d → (n ≤ d.u ∨ n ≤ d.v) → (∀ j c, j < i → cs[j]? = some c → ¬ (n ≤ c.u ∨ n ≤ c.v)) → (chRun n (cs.map lineC ++ [[]])).e = 42 ∧ (chRun n (cs.map lineC ++ [[]])).k = i + 1
  | [], i, d, _, hi, _, _ => by simp at hi
  | c :: cs, 0, d, h, hi, hb, _ => by
    simp at hi; subst hi
    have hw : words (lineC c) ≠ [] := by rw [words_lineC c (h c (by simp))]; simp
    have hc := change_lineC n c (h c (by simp))
    rw [if_pos hb] at hc
    rw [List.map_cons, List.cons_append, chRun_fault hw (by rw [hc]; simp), hc]
    exact ⟨rfl, rfl⟩
  | c :: cs, i + 1, d, h, hi, hb, hg => by
    have hw : words (lineC c) ≠ [] := by rw [words_lineC c (h c (by simp))]; simp
    have hc := change_lineC n c (h c (by simp))
    rw [if_neg (hg 0 c (by omega) rfl)] at hc
    obtain ⟨i1, i2⟩ := chRun_first n cs i d (fun d hd => h d (by simp [hd])) (by simpa using hi) hb (fun j e hj he => hg (j + 1) e (by omega) (by simpa using he))
    rw [List.map_cons, List.cons_append, chRun_says hw (by rw [hc])]
    exact ⟨i1, by simp [i2]⟩
/-- What PrintChanges wrote, read among n. -/
theorem back_pieces (cs : List Ch) (h : (pcF [] cs).2 = 0) : pieces (pcF [] cs).1 = cs.map lineC ++ [[]] ∧ ∀ c ∈ cs, ¬ badC c := by
  have hg : ∀ c ∈ cs, ¬ badC c := by
    intro c hc hb
    rw [pcF_bad cs [] ⟨c, hc, hb⟩] at h
    exact absurd h (by decide)
  rw [pcF_ok cs [] hg, List.nil_append]
  obtain ⟨h1, h2⟩ := whole_textC cs hg
  unfold pieces
  rw [h1, h2]
  exact ⟨rfl, hg⟩
theorem pcF_e (cs : List Ch) : (pcF [] cs).2 = 0 ∨ pcF [] cs = ([], 42) := by
  by_cases h : ∃ c ∈ cs, badC c
  · exact Or.inr (pcF_bad cs [] h)
  · left; rw [pcF_ok cs [] (fun c hc hb => h ⟨c, hc, hb⟩)]
theorem printF_e (n : Int) (ps : List (Int × Int)) : (printF n ps).2 = 0 ∨ (printF n ps).2 ≠ 0 := by omega
end Tx
end Go.Proofs.YtgoobadkbndfgaaDoor
