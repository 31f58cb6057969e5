/- Items put one behind the other, and cut off: plain mathematics -/
import Derived.Test.YtkohakogknodeaaVItem
namespace Go.Proofs.Ytkohakogknodeaa
set_option linter.unusedSimpArgs false
set_option linter.unusedVariables false
namespace Vi
theorem lead_take_down (x : Nat) : ∀ (n k : Nat), k ≤ n → lead ((down x (n + 1)).take k) = k
  | n, 0, _ => by simp [lead]
  | 0, k + 1, h => by omega
  | n + 1, k + 1, h => by
    show lead (grp x (n + 1) :: (down x (n + 1)).take k) = k + 1
    unfold lead
    rw [grp_pos x (n + 1) (by omega), if_pos (by omega), lead_take_down x n k (by omega)]
theorem form_short (x k : Nat) (hx : x < 9223372036854775808) (hk : k < len x) : numE ((form x).take k) = 10 := by
  have h9 := len_nine hx
  have hl : lead ((form x).take k) = k := by
    unfold form
    obtain ⟨n, hn⟩ : ∃ n, len x = n + 1 := ⟨len x - 1, by have := len_pos x; omega⟩
    rw [hn]; exact lead_take_down x n k (by omega)
  have hh : ((form x).take k).head? ≠ some 128#8 := by
    cases k with
    | zero => simp
    | succ k =>
      have := form_head x []
      rw [List.append_nil] at this
      rwa [List.head?_take, if_neg (by omega)]
  unfold numE
  rw [if_neg hh, hl, if_neg (by omega), if_pos (by rw [List.length_take, form_length]; omega)]
theorem rdG_short : ∀ (l : List Int) (f bel : Int) (k : Nat), rise f l = true → (∀ x ∈ l, x - f < 9223372036854775808) → (∀ x ∈ l, x < bel) → k < (gapsL f l).length →
    rdG l.length f bel ((gapsL f l).take k) = ([], 0, 10)
  | [], f, bel, k, _, _, _, hk => by simp [gapsL] at hk
  | x :: t, f, bel, k, hr, hb, hx, hk => by
    simp only [rise, Bool.and_eq_true, decide_eq_true_eq] at hr
    obtain ⟨h1, h2⟩ := hr
    have hx0 := hb x (by simp)
    have hxb := hx x (by simp)
    rw [gapsL, List.length_append, form_length] at hk
    rw [List.length_cons, gapsL, rdG]
    by_cases hlt : k < len (x - f).toNat
    · have e : (form (x - f).toNat ++ gapsL (x + 1) t).take k = (form (x - f).toNat).take k := List.take_append_of_le_length (by rw [form_length]; omega)
      rw [e, form_short _ k (by omega) hlt, if_pos (by decide)]
    · have e : (form (x - f).toNat ++ gapsL (x + 1) t).take k = form (x - f).toNat ++ (gapsL (x + 1) t).take (k - len (x - f).toNat) := by
        rw [List.take_append, form_length, List.take_of_length_le (by rw [form_length]; omega)]
      obtain ⟨e1, e2, e3⟩ := form_num (x - f).toNat ((gapsL (x + 1) t).take (k - len (x - f).toNat)) (by omega)
      have hd : (form (x - f).toNat ++ (gapsL (x + 1) t).take (k - len (x - f).toNat)).drop (len (x - f).toNat) = (gapsL (x + 1) t).take (k - len (x - f).toNat) := List.drop_left' (form_length _)
      have hxx : f + ((x - f).toNat : Int) = x := by omega
      rw [e, e1, e2, e3, hd, hxx, if_neg (by simp), if_neg (by omega), rdG_short t (x + 1) bel _ h2 (fun y hy => by have := hb y (by simp [hy]); omega) (fun y hy => hx y (by simp [hy])) (by omega), if_neg (by decide)]
theorem rdL_short (l : List Int) (f bel : Int) (k : Nat) (h0 : putOk f l = true) (hl : l.length < 9223372036854775808) (hb : ∀ x ∈ l, x < 9223372036854775808) (hx : ∀ x ∈ l, x < bel) (hk : k < (putL f l).length) :
    rdL f bel ((putL f l).take k) = ([], 0, 10) := by
  unfold putL at hk ⊢
  rw [if_pos h0] at hk ⊢
  simp only [putOk, Bool.and_eq_true, decide_eq_true_eq] at h0
  obtain ⟨h1, h2⟩ := h0
  rw [List.length_append, form_length] at hk
  unfold rdL
  by_cases hlt : k < len l.length
  · have e : (form l.length ++ gapsL f l).take k = (form l.length).take k := List.take_append_of_le_length (by rw [form_length]; omega)
    rw [e, form_short _ k hl hlt, if_neg (by omega), if_pos (by decide)]
  · have e : (form l.length ++ gapsL f l).take k = form l.length ++ (gapsL f l).take (k - len l.length) := by
      rw [List.take_append, form_length, List.take_of_length_le (by rw [form_length]; omega)]
    obtain ⟨e1, e2, e3⟩ := form_num l.length ((gapsL f l).take (k - len l.length)) hl
    have hd : (form l.length ++ (gapsL f l).take (k - len l.length)).drop (len l.length) = (gapsL f l).take (k - len l.length) := List.drop_left' (form_length _)
    rw [e, if_neg (by omega), e1, e2, e3, hd, if_neg (by simp), rdG_short l f bel _ h2 (fun y hy => by have := hb y hy; omega) hx (by omega)]
    rw [if_neg (by
      rintro ⟨a, b⟩
      rcases rise_len l f bel h2 hx with rfl | h
      · simp at a
      · omega), if_neg (by decide)]
/-- An item: X, From, Many, Gaps. -/
abbrev ItA := Int × Int × Bool × List Int
def itL (q : ItA) : List Int := numsL (numF q.2.1) (q.2.2.2.take 300)
def itB (q : ItA) : List (BitVec 8) := if q.2.2.1 = true then putL (numF q.2.1) (itL q) else form q.1.toNat
def joinI (qs : List ItA) : List (BitVec 8) := qs.flatMap itB
theorem joinI_nil : joinI [] = [] := rfl
theorem joinI_append (a b : List ItA) : joinI (a ++ b) = joinI a ++ joinI b := by simp [joinI]
theorem joinI_cons (q : ItA) (t : List ItA) : joinI (q :: t) = itB q ++ joinI t := by simp [joinI]
/-- How many bytes the first c items have. -/
def cumI (qs : List ItA) (c : Nat) : Nat := (joinI (qs.take c)).length
theorem cumI_zero (qs : List ItA) : cumI qs 0 = 0 := by simp [cumI, joinI]
theorem joinI_succ (qs : List ItA) (c : Nat) (q : ItA) (h : qs[c]? = some q) : joinI (qs.take (c + 1)) = joinI (qs.take c) ++ itB q := by
  rw [List.take_add_one, h, Option.toList_some, joinI_append, joinI_cons, joinI_nil, List.append_nil]
theorem cumI_succ (qs : List ItA) (c : Nat) (q : ItA) (h : qs[c]? = some q) : cumI qs (c + 1) = cumI qs c + (itB q).length := by
  unfold cumI; rw [joinI_succ qs c q h, List.length_append]
theorem cumI_mono (qs : List ItA) {a b : Nat} (h : a ≤ b) : cumI qs a ≤ cumI qs b := by
  unfold cumI
  have : qs.take b = qs.take a ++ (qs.take b).drop a := by
    conv => lhs; rw [← List.take_append_drop a (qs.take b)]
    rw [List.take_take, Nat.min_eq_left h]
  rw [this, joinI_append, List.length_append]; omega
theorem cumI_all (qs : List ItA) (c : Nat) (h : qs.length ≤ c) : cumI qs c = (joinI qs).length := by unfold cumI; rw [List.take_of_length_le h]
theorem itL_ok (q : ItA) : putOk (numF q.2.1) (itL q) = true ∧ (itL q).length ≤ 300 ∧ (∀ x ∈ itL q, 0 ≤ x ∧ x < 4611686018427387904) ∧ 0 ≤ numF q.2.1 ∧ numF q.2.1 < 1048576 := by
  have hf : 0 ≤ numF q.2.1 ∧ numF q.2.1 < 1048576 := abm_bound q.2.1 1048576 (by decide)
  have hl : (q.2.2.2.take 300).length ≤ 300 := by rw [List.length_take]; omega
  refine ⟨?_, by unfold itL; rw [numsL_length]; exact hl, fun x hx => ?_, hf⟩
  · unfold putOk itL; rw [decide_eq_true hf.1, numsL_rise]; rfl
  · have := numsL_bound _ _ x hx
    omega
theorem itB_len (q : ItA) (hq : q.1 < 9223372036854775808) : 1 ≤ (itB q).length ∧ (itB q).length ≤ 2709 := by
  unfold itB
  split
  · obtain ⟨h1, h2, h3, h4, h5⟩ := itL_ok q
    unfold putL
    rw [if_pos h1, List.length_append, form_length]
    have a := len_pos (itL q).length
    have b := len_nine (x := (itL q).length) (by omega)
    have hr : rise (numF q.2.1) (itL q) = true := numsL_rise _ _
    have c := gapsL_len (itL q) (numF q.2.1) (fun x hx => by have := h3 x hx; omega) hr
    omega
  · rw [form_length]
    have a := len_pos q.1.toNat
    have b := len_nine (x := q.1.toNat) (by omega)
    omega
theorem joinI_len (qs : List ItA) (hq : ∀ q ∈ qs, q.1 < 9223372036854775808) : (joinI qs).length ≤ 2709 * qs.length := by
  induction qs with
  | nil => simp [joinI]
  | cons q t ih =>
    rw [joinI_cons, List.length_append, List.length_cons]
    have := itB_len q (hq q (by simp))
    have := ih (fun x hx => hq x (by simp [hx]))
    omega
/-- What stands at the place of item c, where the bytes are cut off. -/
theorem join_at (qs : List ItA) (cut c : Nat) (q : ItA) (h : qs[c]? = some q) :
    ((joinI qs).take cut).drop (cumI qs c) = (itB q ++ joinI (qs.drop (c + 1))).take (cut - cumI qs c) := by
  rw [List.drop_take]
  congr 1
  have e : joinI qs = joinI (qs.take c) ++ joinI (qs.drop c) := by rw [← joinI_append, List.take_append_drop]
  have hc := (List.getElem?_eq_some_iff.1 h).1
  rw [e, List.drop_left' (show (joinI (qs.take c)).length = cumI qs c from rfl), List.drop_eq_getElem_cons hc, (List.getElem?_eq_some_iff.1 h).2, joinI_cons]
/-- An item that stands whole is read; one that is cut off is not. -/
theorem read_it (qs : List ItA) (cut c : Nat) (q : ItA) (h : qs[c]? = some q) (hq : q.1 < 9223372036854775808) :
    (cumI qs (c + 1) ≤ cut → (q.2.2.1 = true → rdL (numF q.2.1) 4611686018427387904 (((joinI qs).take cut).drop (cumI qs c)) = (itL q, (itB q).length, 0)) ∧
      (q.2.2.1 = false → numE (((joinI qs).take cut).drop (cumI qs c)) = 0 ∧ numX (((joinI qs).take cut).drop (cumI qs c)) = q.1.toNat ∧ numN (((joinI qs).take cut).drop (cumI qs c)) = (itB q).length)) ∧
    (cut < cumI qs (c + 1) → cumI qs c ≤ cut → (q.2.2.1 = true → rdL (numF q.2.1) 4611686018427387904 (((joinI qs).take cut).drop (cumI qs c)) = ([], 0, 10)) ∧
      (q.2.2.1 = false → numE (((joinI qs).take cut).drop (cumI qs c)) = 10)) := by
  rw [cumI_succ qs c q h, join_at qs cut c q h]
  obtain ⟨h1, h2, h3, h4, h5⟩ := itL_ok q
  constructor
  · intro hc
    have e : (itB q ++ joinI (qs.drop (c + 1))).take (cut - cumI qs c) = itB q ++ (joinI (qs.drop (c + 1))).take (cut - cumI qs c - (itB q).length) := by
      rw [List.take_append, List.take_of_length_le (by omega)]
    rw [e]
    constructor
    · intro hM
      have eB : itB q = putL (numF q.2.1) (itL q) := by unfold itB; rw [if_pos hM]
      rw [eB, rdL_put _ _ _ _ h1 (by omega) (fun x hx => by have := h3 x hx; omega), if_pos (fun x hx => (h3 x hx).2)]
    · intro hM
      have eB : itB q = form q.1.toNat := by unfold itB; rw [if_neg (by rw [hM]; decide)]
      rw [eB, form_length]
      exact form_num q.1.toNat _ (by omega)
  · intro hc hc2
    have e : (itB q ++ joinI (qs.drop (c + 1))).take (cut - cumI qs c) = (itB q).take (cut - cumI qs c) := List.take_append_of_le_length (by omega)
    rw [e]
    constructor
    · intro hM
      have eB : itB q = putL (numF q.2.1) (itL q) := by unfold itB; rw [if_pos hM]
      rw [eB] at hc ⊢
      exact rdL_short _ _ _ _ h1 (by omega) (fun x hx => by have := h3 x hx; omega) (fun x hx => (h3 x hx).2) (by omega)
    · intro hM
      have eB : itB q = form q.1.toNat := by unfold itB; rw [if_neg (by rw [hM]; decide)]
      rw [eB, form_length] at hc
      rw [eB]
      exact form_short _ _ (by omega) (by omega)
end Vi
end Go.Proofs.Ytkohakogknodeaa
