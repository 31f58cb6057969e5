/- Both Encodes, every frame -/
import Derived.Test.YtnbagbenpojpnaaDoorFr3
namespace Go.Proofs.YtnbagbenpojpnaaDoor
open Go.RowKit
set_option linter.unusedSimpArgs false
set_option linter.unusedVariables false
def encL (k : Int) (bs : List (BitVec 8)) : List (BitVec 8) := if isK k = true ∧ bs.length ≤ 1024 then Fr.encode (BitVec.ofInt 8 k) bs else []
def encE (k : Int) (bs : List (BitVec 8)) : Int := if isK k = true then if bs.length ≤ 1024 then 0 else 31 else 30
/-- What a call of Encode answers. -/
def EncAns (k : Int) (bs : List (BitVec 8)) (w : World) (e : Ending) (w' : World) : Prop :=
  Below w.heap.size w w' ∧ ∃ A' cap', e = .returned (.tuple #[.slice A' (encL k bs).length cap', .int .i64 (encE k bs)]) ∧
    w'.ownsRow w.heap.size 5 1 (.slice A' (encL k bs).length cap') (encL k bs).length ((encL k bs).map V8)
theorem own_none (w : World) (base : Nat) (t : TypeId) : w.ownsRow base t 1 (.slice none 0 0) 0 [] := ⟨rfl, Or.inl ⟨rfl, rfl⟩⟩
theorem kb_of {k : Int} (h : isK k = true) : k = (n8 (BitVec.ofInt 8 k) : Int) := by
  have : k = 1 ∨ k = 2 ∨ k = 3 := by simp [isK] at h; omega
  rcases this with rfl | rfl | rfl <;> rfl
theorem encAns_bad {k : Int} {bs : List (BitVec 8)} {w w' : World} {e : Ending} {r : Int} (h1 : encL k bs = []) (h2 : encE k bs = r) (h : e = .returned (.tuple #[.slice none 0 0, .int .i64 r])) (hb : Below w.heap.size w w') : EncAns k bs w e w' := by
  refine ⟨hb, none, 0, ?_, ?_⟩
  · rw [h1, h2]; exact h
  · rw [h1]; exact own_none _ _ _
theorem encAns_good {k : Int} {bs : List (BitVec 8)} {w w' : World} {e : Ending} {n : Nat} {A' : Option Addr} {cap' : Nat} (hn : n = bs.length) (hk : isK k = true) (hm : n ≤ 1024)
    (h : e = .returned (.tuple #[.slice A' (n + 12) cap', .int .i64 0])) (ho : w'.ownsRow w.heap.size 5 1 (.slice A' (n + 12) cap') (n + 12) ((Fr.encode (BitVec.ofInt 8 k) bs).map V8)) (hb : Below w.heap.size w w') : EncAns k bs w e w' := by
  have h1 : encL k bs = Fr.encode (BitVec.ofInt 8 k) bs := by unfold encL; rw [if_pos ⟨hk, by omega⟩]
  have h2 : encE k bs = 0 := by unfold encE; rw [if_pos hk, if_pos (by omega)]
  have hl : (Fr.encode (BitVec.ofInt 8 k) bs).length = n + 12 := by rw [Fr.encode_length, hn]
  refine ⟨hb, A', cap', ?_, ?_⟩
  · rw [h1, h2, hl]; exact h
  · rw [h1, hl]; exact ho
theorem encode_any (k : Int) (A : Option Addr) (n cap B : Nat) (bs : List (BitVec 8)) (w : World) (hn : n = bs.length) (hr : Rd w B A (bs.map V8)) (hB : B ≤ w.heap.size) (ht : TabIn w) :
    Calls Tryd.prog 12 #[VF k A n cap] w (EncAns k bs w) := by
  cases hk : isK k with
  | false =>
    refine (encode_bad k A n cap w hk).mono ?_
    rintro e w' ⟨rfl, hb⟩
    exact encAns_bad (by unfold encL; rw [if_neg (by rw [hk]; simp)]) (by unfold encE; rw [hk]; rfl) rfl hb
  | true =>
    by_cases hm : n ≤ 1024
    · refine (encode_good k (BitVec.ofInt 8 k) A n cap B bs w hk (kb_of hk) hn hm hr hB ht).mono ?_
      rintro e w' ⟨A', cap', rfl, ho, hb⟩
      exact encAns_good hn hk hm rfl ho hb
    · refine (encode_long k A n cap w hk (by omega)).mono ?_
      rintro e w' ⟨rfl, hb⟩
      exact encAns_bad (by unfold encL; rw [if_neg (by omega)]) (by unfold encE; rw [if_pos hk, if_neg (by omega)]) rfl hb
theorem rencode_any (k : Int) (A : Option Addr) (n cap B : Nat) (bs : List (BitVec 8)) (w : World) (hn : n = bs.length) (hnil : A = none → n = 0 ∧ cap = 0) (hr : Rd w B A (bs.map V8)) (hB : B ≤ w.heap.size) :
    Calls Tryd.prog 14 #[VF k A n cap] w (EncAns k bs w) := by
  cases hk : isK k with
  | false =>
    refine (rencode_bad k A n cap w hk).mono ?_
    rintro e w' ⟨rfl, hb⟩
    exact encAns_bad (by unfold encL; rw [if_neg (by rw [hk]; simp)]) (by unfold encE; rw [hk]; rfl) rfl hb
  | true =>
    by_cases hm : n ≤ 1024
    · refine (rencode_good k (BitVec.ofInt 8 k) A n cap B bs w hk (kb_of hk) hn hm hnil hr hB).mono ?_
      rintro e w' ⟨A', cap', rfl, ho, hb⟩
      exact encAns_good hn hk hm rfl ho hb
    · refine (rencode_long k A n cap w hk (by omega)).mono ?_
      rintro e w' ⟨rfl, hb⟩
      exact encAns_bad (by unfold encL; rw [if_neg (by omega)]) (by unfold encE; rw [if_pos hk, if_neg (by omega)]) rfl hb
end Go.Proofs.YtnbagbenpojpnaaDoor
