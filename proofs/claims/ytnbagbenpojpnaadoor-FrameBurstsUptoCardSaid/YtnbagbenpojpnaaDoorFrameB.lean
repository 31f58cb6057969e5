/- Bits turned in a row of frames: plain mathematics -/
import Derived.Test.YtnbagbenpojpnaaDoorFrameC
namespace Go.Proofs.YtnbagbenpojpnaaDoor
set_option linter.unusedSimpArgs false
set_option linter.unusedVariables false
namespace Crc
theorem flipBit_right (a b : List (BitVec 8)) (i : Nat) (h : 8 * a.length ≤ i) : flipBit (a ++ b) i = a ++ flipBit b (i - 8 * a.length) := by
  unfold flipBit
  rw [List.set_append_right _ _ (by omega), List.getD_eq_getElem?_getD, List.getElem?_append_right (by omega), ← List.getD_eq_getElem?_getD, show (i - 8 * a.length) / 8 = i / 8 - a.length by omega, show (i - 8 * a.length) % 8 = i % 8 by omega]
theorem flipBit_left (a b : List (BitVec 8)) (i : Nat) (h : i < 8 * a.length) : flipBit (a ++ b) i = flipBit a i ++ b := by
  unfold flipBit
  rw [List.set_append_left _ _ (by omega), List.getD_eq_getElem?_getD, List.getElem?_append_left (by omega), ← List.getD_eq_getElem?_getD]
theorem turnF_right (a b : List (BitVec 8)) (i : Nat) (p : BitVec 32) (h : 8 * a.length ≤ i) : ∀ k, (turnF (a ++ b) i p k).1 = a ++ (turnF b (i - 8 * a.length) p k).1
  | 0 => rfl
  | k + 1 => by
    have ih := turnF_right a b i p h k
    by_cases hc : p.getLsbD (31 - k) = true ∧ i - 8 * a.length + k < 8 * b.length
    · rw [turnF, if_pos ⟨hc.1, by rw [List.length_append]; omega⟩, turnF, if_pos hc]
      show flipBit _ _ = a ++ flipBit _ _
      rw [ih, flipBit_right _ _ _ (by omega), show i + k - 8 * a.length = i - 8 * a.length + k by omega]
    · rw [turnF, if_neg (fun h2 => hc ⟨h2.1, by have := h2.2; rw [List.length_append] at this; omega⟩), turnF, if_neg hc, ih]
theorem turnF_left (a b : List (BitVec 8)) (i : Nat) (p : BitVec 32) : ∀ k, (turnF (a ++ b) i p k).1.take a.length = (turnF a i p k).1
  | 0 => by simp [turnF]
  | k + 1 => by
    have ih := turnF_left a b i p k
    have hl := turnF_length a i p k
    have hs := List.take_append_drop a.length (turnF (a ++ b) i p k).1
    rw [ih] at hs
    generalize (turnF (a ++ b) i p k).1.drop a.length = r at hs
    by_cases hc : p.getLsbD (31 - k) = true ∧ i + k < 8 * a.length
    · rw [turnF, if_pos ⟨hc.1, by rw [List.length_append]; omega⟩, turnF, if_pos hc]
      show (flipBit _ _).take _ = flipBit _ _
      rw [← hs, flipBit_left _ _ _ (by rw [hl]; exact hc.2), List.take_left' (by rw [flipBit_length, hl])]
    · rw [show turnF a i p (k + 1) = turnF a i p k by rw [turnF, if_neg hc]]
      by_cases hd : p.getLsbD (31 - k) = true ∧ i + k < 8 * (a ++ b).length
      · rw [turnF, if_pos hd]
        show (flipBit _ _).take _ = _
        rw [← hs, flipBit_right _ _ _ (by rw [hl]; exact Nat.le_of_not_lt (fun h => hc ⟨hd.1, h⟩)), List.take_left' hl]
      · rw [turnF, if_neg hd]; exact ih
theorem turnF_some (b : List (BitVec 8)) (i : Nat) (p : BitVec 32) (hp : p.getLsbD 31 = true) (hi : i < 8 * b.length) : ∀ k, (turnF b i p (k + 1)).2 = true
  | 0 => by rw [turnF, if_pos ⟨hp, by omega⟩]
  | k + 1 => by
    rw [turnF]
    split
    · rfl
    · exact turnF_some b i p hp hi k
end Crc
namespace Fr
open Crc (turnF turnF_left turnF_right turnF_some turn_sum turnF_length sum sum_behind be)
theorem head_nOf (k : BitVec 8) (n : Nat) (r : List (BitVec 8)) (hn : n ≤ 65535) : nOf (head k n ++ r) = n := by
  show (BitVec.ofNat 8 (n / 256)).toNat * 256 + (BitVec.ofNat 8 n).toNat = n
  rw [BitVec.toNat_ofNat, BitVec.toNat_ofNat]; omega
theorem head_sum (k : BitVec 8) (n : Nat) : sum (head k n) = 0x38FB2284#32 := sum_behind _
theorem good_parts {r : List (BitVec 8)} (h : good r = true) : r.take 8 = head (kOf r) (nOf r) ∧ (r.drop (8 + nOf r)).take 4 = be (sum (pOf r)) := by
  unfold good at h; simp only [Bool.and_eq_true, decide_eq_true_eq] at h
  exact (parts h.1.2).1 h.2
theorem burst_bad (k : BitVec 8) (p post : List (BitVec 8)) (a : Nat) (q : BitVec 32) (hp : p.length ≤ 1024) (hq : q.getLsbD 31 = true) (ha : a < 8 * (p.length + 12)) : good (turnF (encode k p ++ post) a q 32).1 = false := by
  cases hg : good (turnF (encode k p ++ post) a q 32).1 with
  | false => rfl
  | true =>
    exfalso
    obtain ⟨h1, h2⟩ := good_parts hg
    have e : encode k p ++ post = head k p.length ++ ((p ++ be (sum p)) ++ post) := by unfold encode; simp
    rw [e] at h1 h2
    by_cases ha8 : a < 64
    · have hl := turnF_left (head k p.length) ((p ++ be (sum p)) ++ post) a q 32
      rw [head_length, h1] at hl
      have hs := (turn_sum (head k p.length) a q).1 (turnF_some _ a q hq (by rw [head_length]; omega) 31)
      rw [← hl, head_sum, head_sum] at hs
      exact hs rfl
    · have hr := turnF_right (head k p.length) ((p ++ be (sum p)) ++ post) a q (by rw [head_length]; omega) 32
      rw [hr, head_nOf k p.length _ (by omega)] at h2
      have hl := turnF_left (p ++ be (sum p)) post (a - 8 * (head k p.length).length) q 32
      have hs := (turn_sum (p ++ be (sum p)) (a - 8 * (head k p.length).length) q).1 (turnF_some _ _ q hq (by rw [head_length, List.length_append, be_length]; omega) 31)
      generalize (turnF ((p ++ be (sum p)) ++ post) (a - 8 * (head k p.length).length) q 32).1 = s at hr h2 hl
      have hpo : pOf (head k p.length ++ s) = s.take p.length := by
        unfold pOf; rw [head_nOf k p.length _ (by omega), List.drop_left' (head_length _ _)]
      rw [hpo, ← List.drop_drop, List.drop_left' (head_length _ _)] at h2
      rw [List.length_append, be_length, List.take_add, h2] at hl
      rw [← hl, sum_behind, sum_behind] at hs
      exact hs rfl
theorem burst_rows (gs : FrL) (a c : Nat) (q : BitVec 32) (k : BitVec 8) (p : List (BitVec 8)) (ok : ∀ x ∈ gs, okF x) (hq : q.getLsbD 31 = true) (hc : gs[c]? = some (k, p)) (h1 : 8 * cum gs c ≤ a) (h2 : a < 8 * (cum gs c + 12 + p.length)) :
    rows (joinF gs).length (turnF (joinF gs) a q 32).1 = gs.take c ∧ rowsAt (joinF gs).length (turnF (joinF gs) a q 32).1 = cum gs c ∧ cum gs c < (joinF gs).length := by
  have hlt := (List.getElem?_eq_some_iff.1 hc).1
  have hd : gs.drop c = (k, p) :: gs.drop (c + 1) := by
    rw [List.drop_eq_getElem_cons hlt, (List.getElem?_eq_some_iff.1 hc).2]
  have hp := (ok (k, p) (List.mem_of_getElem? hc)).2
  have e : joinF gs = joinF (gs.take c) ++ (encode k p ++ joinF (gs.drop (c + 1))) := by rw [joinF_split gs c, hd, joinF_cons]
  have ht : (turnF (joinF gs) a q 32).1 = joinF (gs.take c) ++ (turnF (encode k p ++ joinF (gs.drop (c + 1))) (a - 8 * (joinF (gs.take c)).length) q 32).1 := by
    rw [e, turnF_right _ _ _ _ h1]
  have hb := burst_bad k p (joinF (gs.drop (c + 1))) (a - 8 * (joinF (gs.take c)).length) q hp hq (by unfold cum at h2 h1; omega)
  have hr := rows_ahead gs c _ _ ok (by omega) ht hb
  rw [turnF_length] at hr
  refine ⟨hr.1, hr.2, ?_⟩
  have := cum_succ gs c k p hc
  have := cum_le gs (c + 1)
  omega
end Fr
end Go.Proofs.YtnbagbenpojpnaaDoor
