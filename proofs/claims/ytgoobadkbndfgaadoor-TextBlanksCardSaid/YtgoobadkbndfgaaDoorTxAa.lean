/- printed texts read back: plain -/
import Derived.Test.YtgoobadkbndfgaaDoorTxZ
namespace Go.Proofs.YtgoobadkbndfgaaDoor
set_option linter.unusedSimpArgs false
set_option linter.unusedVariables false
namespace Tx
def noNl (l : List By) : Prop := ∀ c ∈ l, n8 c ≠ 10
theorem nlIdx_line : ∀ (l rest : List By), noNl l → nlIdx (l ++ 10#8 :: rest) = some l.length
  | [], rest, _ => by unfold nlIdx; simp [n8]
  | c :: l, rest, h => by
    rw [List.cons_append]
    unfold nlIdx
    rw [if_neg (h c (by simp)), nlIdx_line l rest (fun c hc => h c (by simp [hc]))]
    rfl
theorem whole_line (l rest : List By) (h : noNl l) : whole (l ++ 10#8 :: rest) = l :: whole rest ∧ tail (l ++ 10#8 :: rest) = tail rest := by
  obtain ⟨h1, h2⟩ := whole_some (nlIdx_line l rest h)
  rw [h1, h2]
  have e : (l ++ 10#8 :: rest).drop (l.length + 1) = rest := by
    rw [show l ++ 10#8 :: rest = (l ++ [10#8]) ++ rest by simp]
    rw [List.drop_left' (by simp)]
  have e2 : (l ++ 10#8 :: rest).take l.length = l := by simp
  rw [e, e2]
  exact ⟨rfl, rfl⟩
theorem digit_clean {c : By} (h : isDig c = true) : isHash c = false ∧ isBl c = false ∧ n8 c ≠ 10 := by
  unfold isDig at h
  simp at h
  unfold isHash isBl
  refine ⟨?_, ?_, by omega⟩
  · simp; omega
  · simp; omega
theorem digs_dig (z : Int) (h0 : 0 ≤ z) : ∀ c ∈ digs z, isDig c = true := by
  obtain ⟨u, rfl⟩ : ∃ u : Nat, z = u := ⟨z.toNat, by omega⟩
  have hd : digs (u : Int) = (Lib.decDigits u).map UInt8.toBitVec := by
    unfold digs; rw [show Lib.itoa (u : Int) = Lib.decDigits u by unfold Lib.itoa; rw [if_neg (by omega)]; simp]
  rw [hd]; exact (dec_facts u).1
theorem digs_clean (z : Int) (h0 : 0 ≤ z) : clean (digs z) := by
  refine ⟨?_, fun c hc => ⟨(digit_clean (digs_dig z h0 c hc)).1, (digit_clean (digs_dig z h0 c hc)).2.1⟩⟩
  obtain ⟨c, h, _⟩ := digs_last z
  intro h2; rw [h2] at h; cases h
theorem digs_noNl (z : Int) (h0 : 0 ≤ z) : noNl (digs z) := fun c hc => (digit_clean (digs_dig z h0 c hc)).2.2
theorem vertices_clean : clean vertices := ⟨by decide, by decide⟩
theorem noNl_append {a b : List By} (ha : noNl a) (hb : noNl b) : noNl (a ++ b) := fun c hc => (List.mem_append.1 hc).elim (ha c) (hb c)
theorem noNl_blank : noNl [32#8] := by unfold noNl; decide
theorem noNl_vertices : noNl vertices := by unfold noNl; decide
def lineP (p : Int × Int) : List By := digs p.1 ++ [32#8] ++ digs p.2
def textP (ps : List (Int × Int)) : List By := ps.flatMap fun p => lineP p ++ [10#8]
theorem sepF_nl (bs : List By) (h : bs.getLast? = some 10#8) : sepF bs = bs := by unfold sepF; rw [h]; rfl
theorem rowF_pair (bs : List By) (h : bs.getLast? = some 10#8) (p : Int × Int) : rowF bs [p.1, p.2] = bs ++ (lineP p ++ [10#8]) := by
  unfold rowF rowF rowF
  rw [sepF_nl bs h, sepF_digs]
  unfold lineP
  simp [List.append_assoc]
theorem prF_ok (n : Int) : ∀ (ps : List (Int × Int)) (bs : List By), bs.getLast? = some 10#8 → (∀ p ∈ ps, ¬ badP n p) → prF n bs ps = (bs ++ textP ps, 0)
  | [], bs, _, _ => by simp [prF, textP]
  | p :: ps, bs, h, hp => by
    rw [prF, if_neg (hp p (by simp)), rowF_pair bs h p, prF_ok n ps _ (by simp) (fun q hq => hp q (by simp [hq]))]
    simp [textP, List.append_assoc]
theorem prF_bad (n : Int) : ∀ (ps : List (Int × Int)) (bs : List By), (∃ p ∈ ps, badP n p) → prF n bs ps = ([], 42)
  | [], bs, h => by obtain ⟨p, hp, _⟩ := h; cases hp
  | p :: ps, bs, h => by
    rw [prF]
    by_cases hb : badP n p
    · rw [if_pos hb]
    · rw [if_neg hb]
      refine prF_bad n ps _ ?_
      obtain ⟨q, hq, hbq⟩ := h
      rcases List.mem_cons.1 hq with rfl | hq
      · exact absurd hbq hb
      · exact ⟨q, hq, hbq⟩
theorem rowF_first (n : Int) : rowF vertices [n] = vertices ++ [32#8] ++ digs n ++ [10#8] := by
  unfold rowF rowF
  rw [show sepF vertices = vertices ++ [32#8] from sepF_last (c := 115#8) rfl (by decide)]
theorem whole_textP : ∀ (ps : List (Int × Int)), (∀ p ∈ ps, 0 ≤ p.1 ∧ 0 ≤ p.2) → whole (textP ps) = ps.map lineP ∧ tail (textP ps) = []
  | [], _ => ⟨rfl, rfl⟩
  | p :: ps, h => by
    have hp := h p (by simp)
    have e : textP (p :: ps) = lineP p ++ 10#8 :: textP ps := by simp [textP]
    obtain ⟨h1, h2⟩ := whole_line (lineP p) (textP ps) (noNl_append (noNl_append (digs_noNl _ hp.1) noNl_blank) (digs_noNl _ hp.2))
    obtain ⟨h3, h4⟩ := whole_textP ps (fun q hq => h q (by simp [hq]))
    rw [e, h1, h2, h3, h4]
    exact ⟨rfl, rfl⟩
theorem scan_pair (n : Int) (p : Int × Int) (hb : ¬ badP n p) (hn : n ≤ 16777216) : scan n true (words (lineP p)) = ⟨p.1, p.2, true, 0, n, true⟩ := by
  unfold badP at hb
  have h0 : 0 ≤ p.1 ∧ 0 ≤ p.2 ∧ p.1 < n ∧ p.2 < n := by omega
  unfold lineP
  rw [words_two _ _ (digs_clean _ h0.1) (digs_clean _ h0.2.1)]
  have ht : two (digs p.1) (digs p.2) n = (p.1, p.2, 0) := by
    unfold two
    rw [num_digs _ h0.1 (by omega), num_digs _ h0.2.1 (by omega), if_neg (by simp), if_neg (by simp; omega)]
  unfold scan
  simp only [ht]
  rfl
theorem run_textP (n : Int) (hn : n ≤ 16777216) : ∀ (ps : List (Int × Int)), (∀ p ∈ ps, ¬ badP n p) → run n true (ps.map lineP) = ⟨ps, 0, ps.length, n, true⟩
  | [], _ => rfl
  | p :: ps, h => by
    rw [List.map_cons, run_cons, scan_pair n p (h p (by simp)) hn, if_neg (by simp), run_textP n hn ps (fun q hq => h q (by simp [hq]))]
    simp
/-- What Print wrote, read. -/
theorem all_print (n : Int) (ps : List (Int × Int)) (h : (printF n ps).2 = 0) : all (printF n ps).1 = ⟨ps, 0, ps.length + 1, n, true⟩ := by
  unfold printF at h ⊢
  by_cases hn : n < 0 ∨ 16777216 < n
  · rw [if_pos hn] at h; exact absurd h (by decide)
  · rw [if_neg hn] at h ⊢
    have hgood : ∀ p ∈ ps, ¬ badP n p := by
      intro p hp hb
      rw [prF_bad n ps _ ⟨p, hp, hb⟩] at h
      exact absurd h (by decide)
    rw [rowF_first, prF_ok n ps _ (by simp only [List.getLast?_append, List.getLast?_singleton, Option.some_or]) hgood]
    have hpos : ∀ p ∈ ps, 0 ≤ p.1 ∧ 0 ≤ p.2 := fun p hp => by have := hgood p hp; unfold badP at this; omega
    have hl : noNl (vertices ++ [32#8] ++ digs n) := noNl_append (noNl_append noNl_vertices noNl_blank) (digs_noNl n (by omega))
    obtain ⟨w1, w2⟩ := whole_line (vertices ++ [32#8] ++ digs n) (textP ps) hl
    obtain ⟨w3, w4⟩ := whole_textP ps hpos
    have e : vertices ++ [32#8] ++ digs n ++ [10#8] ++ textP ps = (vertices ++ [32#8] ++ digs n) ++ 10#8 :: textP ps := by simp
    unfold all lines
    dsimp only
    rw [e, w1, w2, w3, w4]
    rw [show lasts [] = [] from rfl, List.append_nil, run_cons]
    have hs : scan 0 false (words (vertices ++ [32#8] ++ digs n)) = ⟨0, 0, false, 0, n, true⟩ := by
      rw [words_two _ _ vertices_clean (digs_clean n (by omega))]
      unfold scan
      simp only [num_digs n (by omega) (by omega)]
      simp
      omega
    rw [hs, if_neg (by simp), run_textP n (by omega) ps hgood]
    simp
end Tx
end Go.Proofs.YtgoobadkbndfgaaDoor
