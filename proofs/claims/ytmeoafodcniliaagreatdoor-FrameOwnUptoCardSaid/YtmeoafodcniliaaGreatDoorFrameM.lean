/- Frames as lists of bytes: plain mathematics, no program. -/
import Derived.Test.YtmeoafodcniliaaGreatDoorCrcLaws
namespace Go.Proofs.YtmeoafodcniliaaGreatDoor.Fr
open Crc (be sum)
set_option linter.unusedSimpArgs false
set_option linter.unusedVariables false
/-- The four bytes ahead of a head's sum. -/
def h4 (k : BitVec 8) (n : Nat) : List (BitVec 8) := [0x70#8, k, BitVec.ofNat 8 (n / 256), BitVec.ofNat 8 n]
def head (k : BitVec 8) (n : Nat) : List (BitVec 8) := h4 k n ++ be (sum (h4 k n))
def encode (k : BitVec 8) (p : List (BitVec 8)) : List (BitVec 8) := head k p.length ++ p ++ be (sum p)
theorem be_length (s : BitVec 32) : (be s).length = 4 := rfl
theorem head_length (k : BitVec 8) (n : Nat) : (head k n).length = 8 := rfl
theorem encode_length (k : BitVec 8) (p : List (BitVec 8)) : (encode k p).length = p.length + 12 := by
  unfold encode; rw [List.length_append, List.length_append, head_length, be_length]; omega
/-- Is it a frame's kind? -/
def isKb (k : BitVec 8) : Bool := k.toNat == 1 || k.toNat == 2 || k.toNat == 3
def nOf (b : List (BitVec 8)) : Nat := (b.getD 2 0).toNat * 256 + (b.getD 3 0).toNat
def kOf (b : List (BitVec 8)) : BitVec 8 := b.getD 1 0
def pOf (b : List (BitVec 8)) : List (BitVec 8) := (b.drop 8).take (nOf b)
/-- Does b begin with a frame? -/
def good (b : List (BitVec 8)) : Bool := decide (12 ≤ b.length) && isKb (kOf b) && decide (nOf b ≤ 1024) && decide (12 + nOf b ≤ b.length) && decide (b.take (12 + nOf b) = encode (kOf b) (pOf b))
/-- The frames that b begins with, one behind the other; how many bytes they have. -/
def rows : Nat → List (BitVec 8) → List (BitVec 8 × List (BitVec 8))
  | 0, _ => []
  | f + 1, b => if good b = true then (kOf b, pOf b) :: rows f (b.drop (nOf b + 12)) else []
def rowsAt : Nat → List (BitVec 8) → Nat
  | 0, _ => 0
  | f + 1, b => if good b = true then (nOf b + 12) + rowsAt f (b.drop (nOf b + 12)) else 0
theorem good_len {b : List (BitVec 8)} (h : good b = true) : nOf b + 12 ≤ b.length := by
  unfold good at h; simp only [Bool.and_eq_true, decide_eq_true_eq] at h; omega
theorem good_nOf {b : List (BitVec 8)} (h : good b = true) : nOf b ≤ 1024 := by
  unfold good at h; simp only [Bool.and_eq_true, decide_eq_true_eq] at h; omega
theorem good_nil : good [] = false := rfl
theorem rows_nil : ∀ f, rows f [] = []
  | 0 => rfl
  | f + 1 => by unfold rows; rw [if_neg (by rw [good_nil]; simp)]
theorem rowsAt_nil : ∀ f, rowsAt f [] = 0
  | 0 => rfl
  | f + 1 => by unfold rowsAt; rw [if_neg (by rw [good_nil]; simp)]
theorem rows_good {f : Nat} {b : List (BitVec 8)} (h : good b = true) : rows (f + 1) b = (kOf b, pOf b) :: rows f (b.drop (nOf b + 12)) := by rw [rows, if_pos h]
theorem rowsAt_good {f : Nat} {b : List (BitVec 8)} (h : good b = true) : rowsAt (f + 1) b = (nOf b + 12) + rowsAt f (b.drop (nOf b + 12)) := by rw [rowsAt, if_pos h]
theorem rows_bad {f : Nat} {b : List (BitVec 8)} (h : good b = false) : rows f b = [] := by
  cases f with
  | zero => rfl
  | succ f => rw [rows, if_neg (by rw [h]; simp)]
theorem rowsAt_bad {f : Nat} {b : List (BitVec 8)} (h : good b = false) : rowsAt f b = 0 := by
  cases f with
  | zero => rfl
  | succ f => rw [rowsAt, if_neg (by rw [h]; simp)]
theorem pOf_length {b : List (BitVec 8)} (h : 12 + nOf b ≤ b.length) : (pOf b).length = nOf b := by
  unfold pOf; rw [List.length_take, List.length_drop]; omega
/-- The three parts, looked at one by one. -/
theorem parts {b : List (BitVec 8)} (h : 12 + nOf b ≤ b.length) :
    b.take (12 + nOf b) = encode (kOf b) (pOf b) ↔ b.take 8 = head (kOf b) (nOf b) ∧ (b.drop (8 + nOf b)).take 4 = be (sum (pOf b)) := by
  have e : b.take (12 + nOf b) = b.take 8 ++ pOf b ++ (b.drop (8 + nOf b)).take 4 := by
    rw [show 12 + nOf b = 8 + (nOf b + 4) by omega, List.take_add, List.take_add, ← List.append_assoc, List.drop_drop]; rfl
  rw [e]; unfold encode; rw [pOf_length h]
  constructor
  · intro hh
    have h1 := List.append_inj hh (by rw [List.length_append, List.length_append, List.length_take, head_length]; omega)
    have h2 := List.append_inj h1.1 (by rw [List.length_take, head_length]; omega)
    exact ⟨h2.1, h1.2⟩
  · rintro ⟨h1, h2⟩; rw [h1, h2]
end Go.Proofs.YtmeoafodcniliaaGreatDoor.Fr
