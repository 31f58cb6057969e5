/- lines dressed anew: plain -/
import Derived.Test.YtgoobadkbndfgaaDoorFaM
import Derived.Test.YtgoobadkbndfgaaDoorTxAa
import Derived.Test.YtgoobadkbndfgaaDoorTxK
namespace Go.Proofs.YtgoobadkbndfgaaDoor
set_option linter.unusedSimpArgs false
set_option linter.unusedVariables false
namespace Tx
def flush (cur : List By) : List (List By) := if cur = [] then [] else [cur]
/-- The words, sign by sign. -/
def wd : List By → List By → List (List By)
  | cur, [] => flush cur
  | cur, c :: r => if isHash c then flush cur else if isBl c then flush cur ++ wd [] r else wd (cur ++ [c]) r
theorem wd_spans (bs : List By) : ∀ (r p cur : List By), bs = p ++ cur ++ r → (sS (if cur = [] then none else some p.length) (p.length + cur.length) r).map (cutOut bs) = wd cur r
  | [], p, cur, h => by
    unfold wd flush
    by_cases hc : cur = []
    · simp [hc, sS]
    · have := cutOut_mid p cur []
      rw [List.append_nil] at this
      rw [List.append_nil] at h
      simp [hc, sS, h, this]
  | c :: r, p, cur, h => by
    unfold wd
    have hm := cutOut_mid p cur (c :: r)
    rw [← h] at hm
    by_cases hh : isHash c = true
    · rw [if_pos hh]
      unfold flush
      by_cases hc : cur = []
      · simp [hc, sS, hh]
      · simp [hc, sS, hh, hm]
    · have hh' : isHash c = false := by simpa using hh
      rw [if_neg hh]
      by_cases hb : isBl c = true
      · rw [if_pos hb]
        have ih := wd_spans bs r (p ++ cur ++ [c]) [] (by rw [h]; simp)
        simp only [if_true, List.length_append, List.length_cons, List.length_nil, Nat.add_zero] at ih
        unfold flush
        by_cases hc : cur = []
        · subst hc
          simp [sS, hh', hb] at ih ⊢
          exact ih
        · simp [hc, sS, hh', hb, hm]
          simpa [Nat.add_assoc] using ih
      · have hb' : isBl c = false := by simpa using hb
        rw [if_neg hb]
        have ih := wd_spans bs r p (cur ++ [c]) (by rw [h]; simp)
        rw [if_neg (by simp)] at ih
        simp only [List.length_append, List.length_cons, List.length_nil, Nat.zero_add] at ih
        by_cases hc : cur = []
        · subst hc
          simp [sS, hh', hb'] at ih ⊢
          exact ih
        · simp [hc, sS, hh', hb']
          simpa [Nat.add_assoc] using ih
theorem words_wd (bs : List By) : words bs = wd [] bs := by
  have := wd_spans bs bs [] [] (by simp)
  simpa [words, spans] using this
theorem flush_mem {cur v : List By} (h : v ∈ flush cur) : v = cur ∧ cur ≠ [] := by
  unfold flush at h
  split at h
  · cases h
  · exact ⟨by simpa using h, by assumption⟩
theorem wd_clean : ∀ (r cur : List By), (∀ c ∈ cur, isHash c = false ∧ isBl c = false) → ∀ v ∈ wd cur r, clean v ∧ ∀ c ∈ v, c ∈ cur ++ r
  | [], cur, h, v, hv => by
    obtain ⟨rfl, hne⟩ := flush_mem hv
    exact ⟨⟨hne, h⟩, fun c hc => by simpa using hc⟩
  | c :: r, cur, h, v, hv => by
    unfold wd at hv
    by_cases hh : isHash c = true
    · rw [if_pos hh] at hv
      obtain ⟨rfl, hne⟩ := flush_mem hv
      exact ⟨⟨hne, h⟩, fun c hc => by simp [hc]⟩
    · rw [if_neg hh] at hv
      by_cases hb : isBl c = true
      · rw [if_pos hb] at hv
        rcases List.mem_append.1 hv with h1 | h1
        · obtain ⟨rfl, hne⟩ := flush_mem h1
          exact ⟨⟨hne, h⟩, fun c hc => by simp [hc]⟩
        · have := wd_clean r [] (fun _ h => by cases h) v h1
          exact ⟨this.1, fun d hd => by have := this.2 d hd; simp at this ⊢; exact Or.inr (Or.inr this)⟩
      · rw [if_neg hb] at hv
        have := wd_clean r (cur ++ [c]) (fun d hd => by
          rcases List.mem_append.1 hd with h1 | h1
          · exact h d h1
          · simp at h1; subst h1; exact ⟨by simpa using hh, by simpa using hb⟩) v hv
        exact ⟨this.1, fun d hd => by have := this.2 d hd; simpa using this⟩
theorem words_clean {l v : List By} (h : v ∈ words l) : clean v ∧ ∀ c ∈ v, c ∈ l := by
  rw [words_wd] at h
  have := wd_clean l [] (fun _ h => by cases h) v h
  exact ⟨this.1, fun c hc => by simpa using this.2 c hc⟩
def Stop (r : List By) : Prop := ∀ c r', r = c :: r' → isHash c = true ∨ isBl c = true
theorem wd_letters : ∀ (w cur r : List By), (∀ c ∈ w, isHash c = false ∧ isBl c = false) → wd cur (w ++ r) = wd (cur ++ w) r
  | [], cur, r, _ => by simp
  | c :: w, cur, r, h => by
    have h0 := h c (by simp)
    show wd cur (c :: (w ++ r)) = _
    rw [wd, if_neg (by simp [h0.1]), if_neg (by simp [h0.2]), wd_letters w (cur ++ [c]) r (fun d hd => h d (by simp [hd]))]
    simp
theorem wd_stop {cur r : List By} (hc : cur ≠ []) (h : Stop r) : wd cur r = cur :: wd [] r := by
  cases r with
  | nil => simp [wd, flush, hc]
  | cons c r =>
    rcases h c r rfl with h1 | h1
    · simp [wd, h1, flush, hc]
    · by_cases hh : isHash c = true
      · simp [wd, hh, flush, hc]
      · simp [wd, hh, h1, flush, hc]
/-- What stands so far says these words, whatever blank or end comes. -/
def Pre (P : List By) (vs : List (List By)) : Prop := ∀ r, Stop r → wd [] (P ++ r) = vs ++ wd [] r
def PreB (P : List By) (vs : List (List By)) : Prop := ∀ r, wd [] (P ++ r) = vs ++ wd [] r
theorem PreB.nil : PreB [] [] := fun r => rfl
theorem PreB.pre {P : List By} {vs : List (List By)} (h : PreB P vs) : Pre P vs := fun r _ => h r
theorem PreB.bl {P : List By} {vs : List (List By)} (h : PreB P vs) {c : By} (hh : isHash c = false) (hb : isBl c = true) : PreB (P ++ [c]) vs := by
  intro r
  rw [List.append_assoc, h, List.singleton_append, wd, if_neg (by simp [hh]), if_pos hb]
  rfl
theorem PreB.bls {vs : List (List By)} : ∀ (l P : List By), PreB P vs → (∀ c ∈ l, isHash c = false ∧ isBl c = true) → PreB (P ++ l) vs
  | [], P, h, _ => by simpa using h
  | c :: l, P, h, hl => by
    have := PreB.bls l (P ++ [c]) (h.bl (hl c (by simp)).1 (hl c (by simp)).2) (fun d hd => hl d (by simp [hd]))
    simpa using this
theorem Pre.bl {P : List By} {vs : List (List By)} (h : Pre P vs) {c : By} (hh : isHash c = false) (hb : isBl c = true) : PreB (P ++ [c]) vs := by
  intro r
  rw [List.append_assoc, h _ (by intro d r' he; injection he with he; subst he; exact Or.inr hb), List.singleton_append, wd, if_neg (by simp [hh]), if_pos hb]
  rfl
theorem Pre.bls {vs : List (List By)} {l P : List By} (h : Pre P vs) (hl : ∀ c ∈ l, isHash c = false ∧ isBl c = true) : Pre (P ++ l) vs := by
  cases l with
  | nil => simpa using h
  | cons c l =>
    have := (PreB.bls l (P ++ [c]) (h.bl (hl c (by simp)).1 (hl c (by simp)).2) (fun d hd => hl d (by simp [hd]))).pre
    simpa using this
theorem PreB.word {P : List By} {vs : List (List By)} (h : PreB P vs) {w : List By} (hw : clean w) : Pre (P ++ w) (vs ++ [w]) := by
  intro r hr
  rw [List.append_assoc, h, wd_letters w [] r hw.2, List.nil_append, wd_stop hw.1 hr]
  simp
theorem Pre.end {P : List By} {vs : List (List By)} (h : Pre P vs) : words P = vs := by
  have := h [] (by intro c r h; cases h)
  rw [words_wd]
  simpa [wd, flush] using this
theorem Pre.hash {P : List By} {vs : List (List By)} (h : Pre P vs) {c : By} (hc : isHash c = true) (s : List By) : words (P ++ c :: s) = vs := by
  have := h (c :: s) (by intro d r he; injection he with he; subst he; exact Or.inl hc)
  rw [words_wd, this]
  simp [wd, hc, flush]
/-- The lines of D are those of L, with others without words between them. -/
inductive Drs : List (List By) → List (List By) → Prop
  | nil : Drs [] []
  | blank {x : List By} {L D : List (List By)} : words x = [] → Drs L D → Drs L (x :: D)
  | line {x l : List By} {L D : List (List By)} : words x = words l → Drs L D → Drs (l :: L) (x :: D)
theorem Drs.blanks {L D : List (List By)} : ∀ (xs : List (List By)), (∀ x ∈ xs, words x = []) → Drs L D → Drs L (xs ++ D)
  | [], _, h => h
  | x :: xs, hx, h => .blank (hx x (by simp)) (Drs.blanks xs (fun y hy => hx y (by simp [hy])) h)
theorem Drs.append {L1 D1 L2 D2 : List (List By)} (h : Drs L1 D1) (h2 : Drs L2 D2) : Drs (L1 ++ L2) (D1 ++ D2) := by
  induction h with
  | nil => exact h2
  | blank hx _ ih => exact .blank hx ih
  | line hx _ ih => exact .line hx ih
theorem spokenN_cons (x : List By) (D : List (List By)) (k : Nat) : spokenN (x :: D) (k + 1) = (if words x ≠ [] then 1 else 0) + spokenN D k := by
  unfold spokenN
  rw [List.take_succ_cons, List.filter_cons]
  by_cases h : words x = []
  · simp [h]
  · simp [h]; omega
theorem drs_run {L D : List (List By)} (h : Drs L D) : ∀ (n : Int) (b : Bool), (run n b D).pairs = (run n b L).pairs ∧ (run n b D).e = (run n b L).e ∧ (run n b D).n = (run n b L).n ∧ (run n b D).begun = (run n b L).begun ∧ ((run n b L).e ≠ 0 → spokenN D (run n b D).k = spokenN L (run n b L).k) := by
  induction h with
  | nil => intro n b; exact ⟨rfl, rfl, rfl, rfl, fun _ => rfl⟩
  | @blank x L D hx _ ih =>
    intro n b
    obtain ⟨i1, i2, i3, i4, i5⟩ := ih n b
    rw [run_cons n b x, hx]
    have hs : scan n b [] = ⟨0, 0, false, 0, n, b⟩ := rfl
    rw [hs]
    refine ⟨by simpa using i1, by simpa using i2, by simpa using i3, by simpa using i4, fun he => ?_⟩
    have := spokenN_cons x D (run n b D).k
    simp [hx] at this
    simpa [this] using i5 he
  | @line x l L D hx _ ih =>
    intro n b
    rw [run_cons n b x, run_cons n b l, hx]
    generalize scan n b (words l) = s
    obtain ⟨i1, i2, i3, i4, i5⟩ := ih s.n s.begun
    by_cases he : s.e ≠ 0
    · rw [if_pos he, if_pos he]
      refine ⟨rfl, rfl, rfl, rfl, fun _ => ?_⟩
      show spokenN (x :: D) (0 + 1) = spokenN (l :: L) (0 + 1)
      rw [spokenN_cons, spokenN_cons, hx]
      rfl
    · rw [if_neg he, if_neg he]
      refine ⟨by simp only [i1], i2, i3, i4, fun h => ?_⟩
      show spokenN (x :: D) ((run s.n s.begun D).k + 1) = spokenN (l :: L) ((run s.n s.begun L).k + 1)
      rw [spokenN_cons, spokenN_cons, hx, i5 h]
theorem drs_ch {L D : List (List By)} (h : Drs L D) (n : Int) : (chRun n D).cs = (chRun n L).cs ∧ (chRun n D).e = (chRun n L).e ∧ ((chRun n L).e ≠ 0 → spokenN D (chRun n D).k = spokenN L (chRun n L).k) := by
  induction h with
  | nil => exact ⟨rfl, rfl, fun _ => rfl⟩
  | @blank x L D hx _ ih =>
    obtain ⟨i1, i2, i3⟩ := ih
    rw [chRun_blank hx]
    refine ⟨i1, i2, fun he => ?_⟩
    have := spokenN_cons x D (chRun n D).k
    simp [hx] at this
    simpa [this] using i3 he
  | @line x l L D hx _ ih =>
    obtain ⟨i1, i2, i3⟩ := ih
    by_cases hw : words l = []
    · rw [chRun_blank hw, chRun_blank (hx.trans hw)]
      refine ⟨i1, i2, fun he => ?_⟩
      show spokenN (x :: D) _ = spokenN (l :: L) _
      rw [spokenN_cons, spokenN_cons, hx, i3 he]
    · have hw' : words x ≠ [] := by rw [hx]; exact hw
      by_cases he : (change (words l) n).e = 0
      · rw [chRun_says hw he, chRun_says hw' (by rw [hx]; exact he), hx]
        refine ⟨by simp only [i1], i2, fun he => ?_⟩
        show spokenN (x :: D) _ = spokenN (l :: L) _
        rw [spokenN_cons, spokenN_cons, hx, i3 he]
      · rw [chRun_fault hw he, chRun_fault hw' (by rw [hx]; exact he), hx]
        refine ⟨rfl, rfl, fun _ => ?_⟩
        show spokenN (x :: D) (0 + 1) = spokenN (l :: L) (0 + 1)
        rw [spokenN_cons, spokenN_cons, hx]
        rfl
theorem chRun_k1 (n : Int) : ∀ (ls : List (List By)), (chRun n ls).e ≠ 0 → 1 ≤ (chRun n ls).k ∧ (chRun n ls).k ≤ ls.length
  | [], h => absurd rfl h
  | l :: ls, h => by
    by_cases hw : words l = []
    · rw [chRun_blank hw] at h ⊢
      have := chRun_k1 n ls h
      simp; omega
    · by_cases he : (change (words l) n).e = 0
      · rw [chRun_says hw he] at h ⊢
        have := chRun_k1 n ls h
        simp; omega
      · rw [chRun_fault hw he]
        simp
theorem chRun_snoc (n : Int) : ∀ (ls : List (List By)), (chRun n (ls ++ [[]])).cs = (chRun n ls).cs ∧ (chRun n (ls ++ [[]])).e = (chRun n ls).e ∧ ((chRun n ls).e ≠ 0 → (chRun n (ls ++ [[]])).k = (chRun n ls).k)
  | [] => by
    rw [List.nil_append, chRun_blank rfl]; exact ⟨rfl, rfl, fun h => absurd rfl h⟩
  | l :: ls => by
    obtain ⟨i1, i2, i3⟩ := chRun_snoc n ls
    show (chRun n (l :: (ls ++ [[]]))).cs = _ ∧ (chRun n (l :: (ls ++ [[]]))).e = _ ∧ (_ → (chRun n (l :: (ls ++ [[]]))).k = _)
    by_cases hw : words l = []
    · rw [chRun_blank hw, chRun_blank hw]
      exact ⟨i1, i2, fun h => by rw [i3 h]⟩
    · by_cases he : (change (words l) n).e = 0
      · rw [chRun_says hw he, chRun_says hw he]
        exact ⟨by simp only [i1], i2, fun h => by rw [i3 h]⟩
      · rw [chRun_fault hw he, chRun_fault hw he]
        exact ⟨rfl, rfl, fun _ => rfl⟩
theorem chRun_pieces (n : Int) (b : List By) : (chRun n (pieces b)).cs = (chRun n (lines b)).cs ∧ (chRun n (pieces b)).e = (chRun n (lines b)).e ∧ ((chRun n (lines b)).e ≠ 0 → (chRun n (pieces b)).k = (chRun n (lines b)).k) := by
  unfold pieces lines lasts
  by_cases h : tail b = []
  · rw [h, if_pos rfl, List.append_nil]
    exact chRun_snoc n (whole b)
  · rw [if_neg h]
    exact ⟨rfl, rfl, fun _ => rfl⟩
/-- Lines, each with its end. -/
def text (ls : List (List By)) : List By := ls.flatMap fun l => l ++ [10#8]
theorem text_append (a b : List (List By)) : text (a ++ b) = text a ++ text b := by unfold text; rw [List.flatMap_append]
theorem text_lines : ∀ (ls : List (List By)), (∀ l ∈ ls, noNl l) → whole (text ls) = ls ∧ tail (text ls) = []
  | [], _ => ⟨rfl, rfl⟩
  | l :: ls, h => by
    have h1 := whole_line l (text ls) (h l (by simp))
    have h2 := text_lines ls (fun x hx => h x (by simp [hx]))
    have : text (l :: ls) = l ++ 10#8 :: text ls := by unfold text; simp
    rw [this, h1.1, h1.2, h2.1, h2.2]
    exact ⟨rfl, rfl⟩
theorem lines_text (ls : List (List By)) (h : ∀ l ∈ ls, noNl l) : lines (text ls) = ls := by
  unfold lines; rw [(text_lines ls h).1, (text_lines ls h).2]; simp [lasts]
end Tx
end Go.Proofs.YtgoobadkbndfgaaDoor
