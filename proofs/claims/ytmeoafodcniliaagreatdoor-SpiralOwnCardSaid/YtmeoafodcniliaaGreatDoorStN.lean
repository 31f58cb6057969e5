/- A stable sort by blocks and merges: rotations, single elements led to their places: plain laws of lists, no program in sight -/
import Derived.Test.YtmeoafodcniliaaGreatDoorStM
namespace Go.Proofs.YtmeoafodcniliaaGreatDoor.C24
set_option linter.unusedSimpArgs false
set_option linter.unusedVariables false
namespace St
section
variable {c : Int → Int → Int} {L : Int → Int → Prop}
theorem set_app {P : List Int} {x : Int} {T : List Int} {j : Nat} (hj : j = P.length) (y : Int) : (P ++ x :: T).set j y = P ++ y :: T := by
  subst hj; rw [List.set_append_right _ _ (Nat.le_refl _)]; simp
theorem get_app {P : List Int} {x : Int} {T : List Int} {j : Nat} (hj : j = P.length) : (P ++ x :: T)[j]? = some x := by
  subst hj; simp
/-- Two elements far apart change places. -/
theorem sw_two {P V1 U2 W U1 V2 S : List Int} {x y : Int} {a b : Nat} (ha : a = P.length + V1.length) (hb : b = P.length + V1.length + 1 + U2.length + W.length + U1.length) :
    (P ++ (V1 ++ (x :: U2 ++ (W ++ (U1 ++ (y :: V2 ++ S))))))[a]? = some x ∧ (P ++ (V1 ++ (x :: U2 ++ (W ++ (U1 ++ (y :: V2 ++ S))))))[b]? = some y ∧
    (((P ++ (V1 ++ (x :: U2 ++ (W ++ (U1 ++ (y :: V2 ++ S)))))).set a y).set b x) = P ++ ((V1 ++ [y]) ++ (U2 ++ (W ++ ((U1 ++ [x]) ++ (V2 ++ S))))) := by
  have e1 : P ++ (V1 ++ (x :: U2 ++ (W ++ (U1 ++ (y :: V2 ++ S))))) = (P ++ V1) ++ x :: (U2 ++ (W ++ (U1 ++ (y :: V2 ++ S)))) := by simp
  have e2 : P ++ (V1 ++ (x :: U2 ++ (W ++ (U1 ++ (y :: V2 ++ S))))) = (P ++ V1 ++ x :: (U2 ++ W ++ U1)) ++ y :: (V2 ++ S) := by simp
  refine ⟨?_, ?_, ?_⟩
  · rw [e1]; exact get_app (by simp; omega)
  · rw [e2]; exact get_app (by simp; omega)
  · rw [e1, set_app (by simp; omega), show P ++ V1 ++ y :: (U2 ++ (W ++ (U1 ++ (y :: V2 ++ S)))) = (P ++ V1 ++ y :: (U2 ++ W ++ U1)) ++ y :: (V2 ++ S) by simp, set_app (by simp; omega)]
    simp
theorem up_gen {P B S T : List Int} {x y : Int} {k : Nat} (hk : k = P.length + B.length) :
    (P ++ (B ++ (x :: (y :: T))))[k]? = some x ∧ (P ++ (B ++ (x :: (y :: T))))[k + 1]? = some y ∧
    (((P ++ (B ++ (x :: (y :: T)))).set k y).set (k + 1) x) = P ++ ((B ++ [y]) ++ (x :: T)) ∧ (((P ++ (B ++ (x :: (y :: T)))).set (k + 1) x).set k y) = P ++ ((B ++ [y]) ++ (x :: T)) := by
  have e1 : P ++ (B ++ (x :: (y :: T))) = (P ++ B) ++ x :: y :: T := by simp
  have e2 : P ++ (B ++ (x :: (y :: T))) = (P ++ B ++ [x]) ++ y :: T := by simp
  have hl : (P ++ B).length = k := by simp; omega
  refine ⟨by rw [e1]; exact get_app hl.symm, by rw [e2]; exact get_app (by rw [List.length_append, hl]; rfl), ?_, ?_⟩
  · rw [e1, set_app hl.symm, show P ++ B ++ y :: y :: T = (P ++ B ++ [y]) ++ y :: T by simp, set_app (by rw [List.length_append, hl]; rfl)]; simp
  · rw [e2, set_app (by rw [List.length_append, hl]; rfl), show P ++ B ++ [x] ++ x :: T = (P ++ B) ++ x :: x :: T by simp, set_app hl.symm]; simp
theorem cut_at {B : List Int} {q : Nat} (hq : q < B.length) : B.drop q = B.getD q 0 :: B.drop (q + 1) ∧ B.take (q + 1) = B.take q ++ [B.getD q 0] := by
  have e : B.getD q 0 = B[q] := by simp [List.getD, List.getElem?_eq_getElem hq]
  rw [e]
  exact ⟨List.drop_eq_getElem_cons hq, (List.take_append_getElem hq).symm⟩
/-- One element is led one place up. -/
theorem up_one {P B S : List Int} {x : Int} {q : Nat} (hq : q < B.length) {k : Nat} (hk : k = P.length + q) :
    (P ++ (B.take q ++ (x :: (B.drop q ++ S))))[k]? = some x ∧ (P ++ (B.take q ++ (x :: (B.drop q ++ S))))[k + 1]? = some (B.getD q 0) ∧
    (((P ++ (B.take q ++ (x :: (B.drop q ++ S)))).set k (B.getD q 0)).set (k + 1) x) = P ++ (B.take (q + 1) ++ (x :: (B.drop (q + 1) ++ S))) := by
  obtain ⟨e1, e2⟩ := cut_at hq
  have hl : (B.take q).length = q := by simp; omega
  rw [e1, e2]
  obtain ⟨h1, h2, h3, _⟩ := up_gen (P := P) (B := B.take q) (S := S) (T := B.drop (q + 1) ++ S) (x := x) (y := B.getD q 0) (k := k) (by omega)
  exact ⟨h1, h2, h3⟩
/-- One element is led one place down. -/
theorem down_one {P A S : List Int} {y : Int} {s : Nat} (hs : s < A.length) {k : Nat} (hk : k = P.length + s) :
    (P ++ (A.take (s + 1) ++ (y :: (A.drop (s + 1) ++ S))))[k + 1]? = some y ∧ (P ++ (A.take (s + 1) ++ (y :: (A.drop (s + 1) ++ S))))[k]? = some (A.getD s 0) ∧
    (((P ++ (A.take (s + 1) ++ (y :: (A.drop (s + 1) ++ S)))).set (k + 1) (A.getD s 0)).set k y) = P ++ (A.take s ++ (y :: (A.drop s ++ S))) := by
  obtain ⟨e1, e2⟩ := cut_at hs
  have hl : (A.take s).length = s := by simp; omega
  rw [e1, e2]
  obtain ⟨h1, h2, _, h4⟩ := up_gen (P := P) (B := A.take s) (S := S) (T := A.drop (s + 1) ++ S) (x := A.getD s 0) (y := y) (k := k) (by omega)
  rw [List.append_assoc (A.take s)] at *
  refine ⟨h2, h1, h4.trans ?_⟩
  simp
/-- One element among sorted ones. -/
theorem ins_one (h : Ord c L) {B : List Int} {x : Int} {q : Nat} (hB : B.Pairwise L) (hq : q ≤ B.length) (h1 : q = 0 ∨ L (B.getD (q - 1) 0) x) (h2 : q = B.length ∨ L x (B.getD q 0)) :
    (B.take q ++ x :: B.drop q).Perm (x :: B) ∧ (B.take q ++ x :: B.drop q).Pairwise L := by
  have hB1 := hB.sublist (List.take_sublist q B)
  have hB2 := hB.sublist (List.drop_sublist q B)
  have a := sym_split h (A := [x]) (B := B.take q) (R1 := B.take q) (R2 := [x]) (s := 0) (q := q) (List.pairwise_singleton _ _) hB1 (by simp) (by simp; omega) (Or.inl rfl)
    (by
      rcases h1 with e | e
      · exact Or.inr (Or.inl e)
      · rcases Nat.eq_zero_or_pos q with e0 | e0
        · exact Or.inr (Or.inl e0)
        · refine Or.inr (Or.inr ?_)
          have : (B.take q).getD (q - 1) 0 = B.getD (q - 1) 0 := by simp [List.getD, List.getElem?_take, show q - 1 < q by omega]
          rw [this]; exact e)
    (by simp [List.take_take]) (by simp) hB1 (List.pairwise_singleton _ _)
  have b := sym_split h (A := [x]) (B := B) (R1 := B.take q ++ [x]) (R2 := B.drop q) (s := 1) (q := q) (List.pairwise_singleton _ _) hB (by simp) hq (Or.inr (h2.imp id (fun e => e))) (Or.inl rfl)
    (List.perm_append_comm) (by simp) a.2 hB2
  rw [show B.take q ++ x :: B.drop q = (B.take q ++ [x]) ++ B.drop q by simp]
  exact b
end
end St
end Go.Proofs.YtmeoafodcniliaaGreatDoor.C24
