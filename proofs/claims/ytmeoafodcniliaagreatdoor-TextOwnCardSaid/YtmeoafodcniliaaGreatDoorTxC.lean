/- bytes.Cut at a newline -/
import Derived.Test.YtmeoafodcniliaaGreatDoorTxT
import Derived.Test.YtmeoafodcniliaaGreatDoorTxL
namespace Go.Proofs.YtmeoafodcniliaaGreatDoor.C4
open Go.RowKit
set_option linter.unusedSimpArgs false
set_option linter.unusedVariables false
theorem bytesOf_v8 (bs : List (BitVec 8)) : Lib.bytesOf (bs.map fun b => (n8 b : Int)) = bs.map UInt8.ofBitVec := by
  unfold Lib.bytesOf
  rw [List.map_map]
  apply List.map_congr_left
  intro b _
  show UInt8.ofNat ((n8 b : Int)).toNat = _
  rw [Int.toNat_natCast]; unfold n8
  apply UInt8.toBitVec_inj.1
  simp
theorem indexByte_nl : ∀ bs : List (BitVec 8), Lib.indexByte (bs.map UInt8.ofBitVec) 10 = match Tx.nlIdx bs with | none => -1 | some i => (i : Int)
  | [] => rfl
  | c :: r => by
    rw [List.map_cons]
    unfold Lib.indexByte Tx.nlIdx
    have hc : (UInt8.ofBitVec c == 10) = decide (n8 c = 10) := by
      by_cases h : n8 c = 10
      · have : c = 10#8 := n8_inj h
        subst this; rfl
      · rw [decide_eq_false h, beq_eq_false_iff_ne]
        intro h2
        apply h
        have := congrArg UInt8.toNat h2
        unfold n8; simpa using this
    rw [hc, indexByte_nl r]
    by_cases h : n8 c = 10
    · rw [decide_eq_true h, if_pos rfl, if_pos h]; rfl
    · rw [decide_eq_false h, if_neg (by decide), if_neg h]
      cases hi : Tx.nlIdx r with
      | none => rfl
      | some i => dsimp only [Option.map]; rw [if_neg (by simp)]; rfl
theorem cut_calls (A : Option Addr) (n cap B b2 d : Nat) (bs : List (BitVec 8)) (w : World) (hn : n = bs.length) (hm : n ≤ 1099511627776) (hcap : n ≤ cap) (hnil : A = none → n = 0 ∧ cap = 0) (hr : Rd w B A (bs.map V8)) (hc2 : w.cell? ⟨b2, 0, none⟩ = some (.int .u8 10)) :
    Calls Tryz.prog 68 #[.slice A n cap, .slice (some ⟨b2, 0, none⟩) 1 d] w fun e w' => (∃ q, w' = w.drewN q) ∧
      ((Tx.nlIdx bs = none ∧ e = .returned (.tuple #[.slice A n cap, .slice none 0 0, .bool false])) ∨
        ∃ i A2 cap2, Tx.nlIdx bs = some i ∧ e = .returned (.tuple #[.slice A i cap, .slice A2 (n - (i + 1)) cap2, .bool true]) ∧ n - (i + 1) ≤ cap2 ∧ A2 ≠ none ∧ Rd w' B A2 ((bs.drop (i + 1)).map V8) ∧ (∀ a, A2 = some a → ∃ a0, A = some a0 ∧ a.block = a0.block)) := by
  have hidx : Calls Tryz.prog 104 #[.slice A n cap, .slice (some ⟨b2, 0, none⟩) 1 d] w fun e w' => e = .returned (.int .i64 (match Tx.nlIdx bs with | none => -1 | some i => (i : Int))) ∧ ∃ q, w' = w.drewN q := by
    cases A with
    | none =>
      obtain ⟨rfl, rfl⟩ := hnil rfl
      have : bs = [] := List.eq_nil_of_length_eq_zero hn.symm
      subst this
      refine (Tryz.bytes_Index_one_nil b2 0 d 10 w hc2).mono ?_
      rintro e w' ⟨rfl, rfl⟩
      exact ⟨rfl, 0, rfl⟩
    | some a =>
      by_cases h0 : n = 0
      · have : bs = [] := List.eq_nil_of_length_eq_zero (by omega)
        subst this
        subst h0
        refine (Tryz.bytes_Index_one_at a 0 cap b2 0 d [] 10 w rfl (by intro i hi; omega) hc2).mono ?_
        rintro e w' ⟨rfl, rfl⟩
        exact ⟨rfl, 0, rfl⟩
      · refine (Tryz.bytes_Index_one_at a n cap b2 0 d (bs.map fun b => (n8 b : Int)) 10 w (by simp; omega) ?_ hc2).mono ?_
        · intro i hi
          have hb : bs[i]? = some (bs[i]'(by omega)) := List.getElem?_eq_getElem _
          obtain ⟨b, off, he, _, hc⟩ := hr i (V8 (bs[i]'(by omega))) (by rw [List.getElem?_map, hb]; rfl)
          injection he with he; subst he
          rw [Addr.add_lit, hc]
          simp [List.getD, hb]
        · rintro e w' ⟨rfl, rfl⟩
          rw [bytesOf_v8]
          have := indexByte_nl bs
          rw [show (10 : Int).toNat.toUInt8 = 10 from rfl, this]
          exact ⟨rfl, 0, rfl⟩
  have hlt : ∀ i, Tx.nlIdx bs = some i → i < n := fun i h => by rw [hn]; exact Tx.nlIdx_lt h
  refine (Tryz.bytes_Cut_of A (some ⟨b2, 0, none⟩) n cap 1 d _ w hcap ?_ ?_ (by omega) hidx).mono ?_
  · cases hi : Tx.nlIdx bs with
    | none => decide
    | some i => dsimp only; omega
  · cases hi : Tx.nlIdx bs with
    | none => intro h; exact absurd h (by decide)
    | some i => intro _; have := hlt i hi; dsimp only; omega
  · rintro e w' ⟨rfl, q, rfl⟩
    refine ⟨⟨q, rfl⟩, ?_⟩
    cases hi : Tx.nlIdx bs with
    | none => exact Or.inl ⟨rfl, rfl⟩
    | some i =>
      right
      have hin := hlt i hi
      cases A with
      | none => have := hnil rfl; omega
      | some a =>
        have hrd : ∀ a2 : Addr, (a2 = a ∧ n = i + 1) ∨ (a2 = a.add (i + 1)) → Rd w B (some a2) ((bs.drop (i + 1)).map V8) := by
          intro a2 ha2 k v hv
          rw [List.getElem?_map, List.getElem?_drop] at hv
          obtain ⟨c, hc, rfl⟩ : ∃ c, bs[i + 1 + k]? = some c ∧ v = V8 c := by
            cases hq : bs[i + 1 + k]? with
            | none => rw [hq] at hv; cases hv
            | some c => rw [hq] at hv; injection hv with hv; exact ⟨c, rfl, hv.symm⟩
          obtain ⟨b, off, he, hb, hcell⟩ := hr (i + 1 + k) (V8 c) (by rw [List.getElem?_map, hc]; rfl)
          injection he with he; subst he
          rcases ha2 with ⟨_, h2⟩ | h2
          · have := (List.getElem?_eq_some_iff.1 hc).1; omega
          · subst h2
            exact ⟨b, off + (i + 1), rfl, hb, by rw [Nat.add_assoc]; exact hcell⟩
        by_cases hc : cap = i + 1
        · refine ⟨i, some a, cap - (i + 1), rfl, ?_, by omega, (by intro h; cases h), hrd a (Or.inl ⟨rfl, by omega⟩), fun a' h => ⟨a, rfl, by injection h with h; rw [h]⟩⟩
          unfold Lib.cutV Lib.fromV
          dsimp only
          rw [if_pos (by omega), Int.toNat_natCast, if_pos hc]
        · refine ⟨i, some (a.add (i + 1)), cap - (i + 1), rfl, ?_, by omega, (by intro h; cases h), hrd _ (Or.inr rfl), fun a' h => ⟨a, rfl, by injection h with h; rw [← h]; rfl⟩⟩
          unfold Lib.cutV Lib.fromV
          dsimp only
          rw [if_pos (by omega), Int.toNat_natCast, if_neg hc]
          rfl
end Go.Proofs.YtmeoafodcniliaaGreatDoor.C4
