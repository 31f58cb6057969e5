/- A frame's bytes with any bytes behind: plain mathematics. -/
import Derived.Test.YtmeoafodcniliaaGreatDoorFrameM
namespace Go.Proofs.YtmeoafodcniliaaGreatDoor.Fr
open Crc (be sum)
set_option linter.unusedSimpArgs false
set_option linter.unusedVariables false
theorem enc_kOf (k : BitVec 8) (p r : List (BitVec 8)) : kOf (encode k p ++ r) = k := rfl
theorem enc_nOf (k : BitVec 8) (p r : List (BitVec 8)) (hp : p.length ≤ 65535) : nOf (encode k p ++ r) = p.length := by
  show (BitVec.ofNat 8 (p.length / 256)).toNat * 256 + (BitVec.ofNat 8 p.length).toNat = p.length
  rw [BitVec.toNat_ofNat, BitVec.toNat_ofNat]; omega
theorem enc_pOf (k : BitVec 8) (p r : List (BitVec 8)) (hp : p.length ≤ 65535) : pOf (encode k p ++ r) = p := by
  unfold pOf
  rw [enc_nOf k p r hp]
  unfold encode
  rw [List.append_assoc, List.append_assoc, List.drop_append_of_le_length (by rw [head_length]; omega), List.drop_eq_nil_of_le (by rw [head_length]; omega), List.nil_append, List.take_left']
  rfl
theorem enc_drop (k : BitVec 8) (p r : List (BitVec 8)) : (encode k p ++ r).drop (p.length + 12) = r := by
  rw [List.drop_append_of_le_length (by rw [encode_length]; omega), List.drop_eq_nil_of_le (by rw [encode_length]; omega), List.nil_append]
theorem enc_take (k : BitVec 8) (p r : List (BitVec 8)) : (encode k p ++ r).take (12 + p.length) = encode k p := by
  rw [List.take_left']; rw [encode_length]; omega
theorem enc_good (k : BitVec 8) (p r : List (BitVec 8)) (hk : isKb k = true) (hp : p.length ≤ 1024) : good (encode k p ++ r) = true := by
  unfold good
  rw [enc_kOf, enc_nOf k p r (by omega), enc_pOf k p r (by omega), enc_take, hk, List.length_append, encode_length]
  simp; omega
/-- Frames one behind the other. -/
def okF (f : BitVec 8 × List (BitVec 8)) : Prop := isKb f.1 = true ∧ f.2.length ≤ 1024
def joinF (fs : List (BitVec 8 × List (BitVec 8))) : List (BitVec 8) := (fs.map fun f => encode f.1 f.2).flatten
theorem rows_join : ∀ (fs : List (BitVec 8 × List (BitVec 8))) (r : List (BitVec 8)) (f : Nat), (∀ x ∈ fs, okF x) → fs.length ≤ f → rows f (joinF fs ++ r) = fs ++ rows (f - fs.length) r ∧ rowsAt f (joinF fs ++ r) = (joinF fs).length + rowsAt (f - fs.length) r
  | [], r, f, _, _ => by simp [joinF]
  | (k, p) :: fs, r, 0, _, hf => by simp at hf
  | (k, p) :: fs, r, f + 1, ho, hf => by
    obtain ⟨h1, h2⟩ := ho (k, p) (by simp)
    have e : joinF ((k, p) :: fs) ++ r = encode k p ++ (joinF fs ++ r) := by simp [joinF]
    have hg := enc_good k p (joinF fs ++ r) h1 h2
    obtain ⟨i1, i2⟩ := rows_join fs r f (fun x hx => ho x (by simp [hx])) (by simp at hf; omega)
    rw [e, rows_good hg, rowsAt_good hg, enc_kOf, enc_nOf k p _ (Nat.le_trans h2 (by omega)), enc_pOf k p _ (Nat.le_trans h2 (by omega)), enc_drop, i1, i2]
    refine ⟨by simp, ?_⟩
    have : (joinF ((k, p) :: fs)).length = p.length + 12 + (joinF fs).length := by simp [joinF, encode_length]
    rw [this]; simp; omega
theorem joinF_length_ge : ∀ (fs : List (BitVec 8 × List (BitVec 8))), fs.length ≤ (joinF fs).length
  | [] => by simp
  | (k, p) :: fs => by
    have := joinF_length_ge fs
    have e : (joinF ((k, p) :: fs)).length = p.length + 12 + (joinF fs).length := by simp [joinF, encode_length]
    rw [e]; simp; omega
end Go.Proofs.YtmeoafodcniliaaGreatDoor.Fr
