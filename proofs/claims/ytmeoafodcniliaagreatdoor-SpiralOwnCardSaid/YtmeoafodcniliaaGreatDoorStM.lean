/- A stable sort by blocks and merges: plain laws of lists, no program in sight -/
import Derived.Test.YtmeoafodcniliaaGreatDoorSpI
namespace Go.Proofs.YtmeoafodcniliaaGreatDoor.C24
set_option linter.unusedSimpArgs false
set_option linter.unusedVariables false
namespace St
/-- What is asked of an order. -/
structure Ord (c : Int → Int → Int) (L : Int → Int → Prop) : Prop where
  trans : ∀ x y z, L x y → L y z → L x z
  asym : ∀ x y, L x y → L y x → False
  yes : ∀ x y, x < y → c y x < 0 → L y x
  no : ∀ x y, x < y → ¬ c y x < 0 → L x y
/-- All of A stand ahead of all of B. -/
def Bef (A B : List Int) : Prop := ∀ x ∈ A, ∀ y ∈ B, x < y
section
variable {c : Int → Int → Int} {L : Int → Int → Prop}
theorem pw_split {A B : List Int} : (A ++ B).Pairwise L ↔ A.Pairwise L ∧ B.Pairwise L ∧ ∀ x ∈ A, ∀ y ∈ B, L x y := List.pairwise_append
theorem getD_app {P Q : List Int} {k : Nat} (h : k = P.length) : ∀ {y : Int} {T : List Int}, (P ++ y :: T).getD k 0 = y := by
  intro y T; subst h; simp [List.getD]
theorem swp_app (P : List Int) (x y : Int) (T : List Int) (j : Nat) (hj : j = P.length) : Sp.swp (P ++ x :: y :: T) j = P ++ y :: x :: T := by
  subst hj
  unfold Sp.swp
  have e1 : (P ++ x :: y :: T).getD P.length 0 = x := by simp [List.getD]
  have e2 : (P ++ x :: y :: T).getD (P.length + 1) 0 = y := by simp [List.getD, List.getElem?_append_right]
  rw [e1, e2, List.set_append_right _ _ (by omega), List.set_append_right _ _ (by omega)]
  simp
theorem bub_ok (h : Ord c L) (P : List Int) (y : Int) : ∀ (k : Nat) (U T : List Int), U.length = k → U.Pairwise L → (∀ x ∈ U, x < y) →
    ∃ V, Sp.bub (fun x y => decide (c x y < 0)) P.length (P.length + k) (P ++ (U ++ y :: T)) = P ++ (V ++ T) ∧ V.Perm (U ++ [y]) ∧ V.Pairwise L := by
  intro k
  induction k with
  | zero =>
    intro U T hU _ _
    obtain rfl := List.eq_nil_of_length_eq_zero hU
    refine ⟨[y], ?_, List.Perm.refl _, List.pairwise_singleton _ _⟩
    rw [Sp.bub_stop _ _ _ _ (Or.inl (by omega))]; rfl
  | succ k ih =>
    intro U T hU hS hlt
    have hne : U ≠ [] := by intro h; rw [h] at hU; simp at hU
    obtain ⟨U', x, rfl⟩ : ∃ U' x, U = U' ++ [x] := ⟨U.dropLast, U.getLast hne, (List.dropLast_concat_getLast hne).symm⟩
    have hU' : U'.length = k := by simp at hU; exact hU
    obtain ⟨hs1, _, hs2⟩ := pw_split.1 hS
    have hxy : x < y := hlt x (by simp)
    have e0 : P ++ (U' ++ [x] ++ y :: T) = (P ++ U') ++ x :: y :: T := by simp
    have ex : (P ++ (U' ++ [x] ++ y :: T)).getD (P.length + k) 0 = x := by rw [e0]; exact getD_app (Q := []) (by simp [hU'])
    have ey : (P ++ (U' ++ [x] ++ y :: T)).getD (P.length + k + 1) 0 = y := by
      rw [show P ++ (U' ++ [x] ++ y :: T) = (P ++ U' ++ [x]) ++ y :: T by simp]
      exact getD_app (Q := []) (by simp [hU']; omega)
    by_cases hc : c y x < 0
    · rw [show P.length + (k + 1) = (P.length + k) + 1 by omega, Sp.bub_go _ _ _ _ (by omega) (by rw [ex, ey]; exact decide_eq_true hc), e0, swp_app _ _ _ _ _ (by simp [hU']),
        show P ++ U' ++ y :: x :: T = P ++ (U' ++ y :: (x :: T)) by simp]
      obtain ⟨V, h1, h2, h3⟩ := ih U' (x :: T) hU' hs1 (fun z hz => hlt z (by simp [hz]))
      refine ⟨V ++ [x], by rw [h1]; simp, ?_, ?_⟩
      · refine (h2.append_right [x]).trans ?_
        rw [List.append_assoc, List.append_assoc]
        exact List.Perm.append_left U' (List.Perm.swap x y [])
      · refine pw_split.2 ⟨h3, List.pairwise_singleton _ _, fun z hz u hu => ?_⟩
        simp at hu; subst hu
        have := h2.mem_iff.1 hz
        rcases List.mem_append.1 this with h4 | h4
        · exact hs2 z h4 _ (by simp)
        · simp at h4; subst h4; exact h.yes _ _ hxy hc
    · refine ⟨U' ++ [x] ++ [y], ?_, List.Perm.refl _, ?_⟩
      · rw [Sp.bub_stop _ _ _ _ (Or.inr (by rw [show P.length + (k + 1) - 1 = P.length + k by omega, show P.length + (k + 1) = P.length + k + 1 by omega, ex, ey]; exact decide_eq_false hc))]; simp
      · refine pw_split.2 ⟨hS, List.pairwise_singleton _ _, fun z hz u hu => ?_⟩
        simp at hu; subst hu
        have hx := h.no _ _ hxy hc
        rcases List.mem_append.1 hz with h4 | h4
        · exact h.trans _ _ _ (hs2 z h4 _ (by simp)) hx
        · simp at h4; subst h4; exact hx
theorem insN_ok (h : Ord c L) (P S : List Int) : ∀ (T U : List Int), U.Pairwise L → (∀ x ∈ U, ∀ y ∈ T, x < y) → T.Pairwise (· < ·) →
    ∃ V, Sp.insN (fun x y => decide (c x y < 0)) P.length T.length (P.length + U.length) (P ++ (U ++ (T ++ S))) = P ++ (V ++ S) ∧ V.Perm (U ++ T) ∧ V.Pairwise L := by
  intro T
  induction T with
  | nil => intro U hU _ _; exact ⟨U, rfl, by simp, hU⟩
  | cons y T ih =>
    intro U hU hlt hT
    obtain ⟨V, h1, h2, h3⟩ := bub_ok h P y U.length U (T ++ S) rfl hU (fun x hx => hlt x hx y (by simp))
    obtain ⟨hy, hT'⟩ := List.pairwise_cons.1 hT
    rw [List.length_cons, Sp.insN, List.cons_append, h1]
    obtain ⟨W, h4, h5, h6⟩ := ih V h3 (fun x hx z hz => by
      rcases List.mem_append.1 (h2.mem_iff.1 hx) with h7 | h7
      · exact hlt x h7 z (by simp [hz])
      · simp at h7; subst h7; exact hy z hz) hT'
    have hl : V.length = U.length + 1 := by have := h2.length_eq; simpa using this
    rw [hl, ← Nat.add_assoc] at h4
    refine ⟨W, h4, h5.trans ((h2.append_right T).trans ?_), h6⟩
    simp
/-- A block is sorted in its place. -/
theorem ins_block (h : Ord c L) (P M S : List Int) (hM : M.Pairwise (· < ·)) :
    ∃ V, Sp.insN (fun x y => decide (c x y < 0)) P.length (P.length + M.length - (P.length + 1)) (P.length + 1) (P ++ (M ++ S)) = P ++ (V ++ S) ∧ V.Perm M ∧ V.Pairwise L := by
  cases M with
  | nil => exact ⟨[], by rw [show P.length + ([] : List Int).length - (P.length + 1) = 0 by simp]; rfl, List.Perm.refl _, List.Pairwise.nil⟩
  | cons x M =>
    obtain ⟨hx, hM'⟩ := List.pairwise_cons.1 hM
    obtain ⟨V, h1, h2, h3⟩ := insN_ok h P S M [x] (List.pairwise_singleton _ _) (fun a ha y hy => by simp at ha; subst ha; exact hx y hy) hM'
    refine ⟨V, ?_, h2, h3⟩
    rw [← h1]; congr 1
    simp; omega
/-- Two sorted lists, parted crosswise. -/
theorem sym_split (h : Ord c L) {A B R1 R2 : List Int} {s q : Nat} (hA : A.Pairwise L) (hB : B.Pairwise L) (hs : s ≤ A.length) (hq : q ≤ B.length)
    (h1 : s = 0 ∨ q = B.length ∨ L (A.getD (s - 1) 0) (B.getD q 0)) (h2 : s = A.length ∨ q = 0 ∨ L (B.getD (q - 1) 0) (A.getD s 0))
    (p1 : R1.Perm (A.take s ++ B.take q)) (p2 : R2.Perm (A.drop s ++ B.drop q)) (s1 : R1.Pairwise L) (s2 : R2.Pairwise L) :
    (R1 ++ R2).Perm (A ++ B) ∧ (R1 ++ R2).Pairwise L := by
  have hA' := hA; have hB' := hB
  rw [← List.take_append_drop s A] at hA'
  rw [← List.take_append_drop q B] at hB'
  obtain ⟨_, _, hAA⟩ := pw_split.1 hA'
  obtain ⟨_, _, hBB⟩ := pw_split.1 hB'
  have lst : ∀ {Z : List Int} {k : Nat}, Z.Pairwise L → k ≤ Z.length → ∀ z ∈ Z.take k, z = Z.getD (k - 1) 0 ∨ L z (Z.getD (k - 1) 0) := by
    intro Z k hZ hk z hz
    obtain ⟨i, hi, rfl⟩ := List.mem_iff_getElem.1 hz
    have hik : i < k := by simp at hi; omega
    rw [List.getElem_take]
    have e : Z.getD (k - 1) 0 = Z[k - 1]'(by omega) := by simp [List.getD, List.getElem?_eq_getElem (show k - 1 < Z.length by omega)]
    rw [e]
    by_cases hie : i = k - 1
    · subst hie; exact Or.inl rfl
    · exact Or.inr (List.pairwise_iff_getElem.1 hZ i (k - 1) (by omega) (by omega) (by omega))
  have fst : ∀ {Z : List Int} {k : Nat}, Z.Pairwise L → ∀ z ∈ Z.drop k, z = Z.getD k 0 ∨ L (Z.getD k 0) z := by
    intro Z k hZ z hz
    obtain ⟨i, hi, rfl⟩ := List.mem_iff_getElem.1 hz
    have hi' : k + i < Z.length := by simp at hi; omega
    rw [List.getElem_drop]
    have e : Z.getD k 0 = Z[k]'(by omega) := by simp [List.getD, List.getElem?_eq_getElem (show k < Z.length by omega)]
    rw [e]
    by_cases hie : i = 0
    · subst hie; exact Or.inl rfl
    · exact Or.inr (List.pairwise_iff_getElem.1 hZ k (k + i) (by omega) (by omega) (by omega))
  have cross : ∀ {Z W : List Int} {i j : Nat}, Z.Pairwise L → W.Pairwise L → i ≤ Z.length → L (Z.getD (i - 1) 0) (W.getD j 0) → ∀ x ∈ Z.take i, ∀ y ∈ W.drop j, L x y := by
    intro Z W i j hZ hW hi hL x hx y hy
    have a : L x (W.getD j 0) := by
      rcases lst hZ hi x hx with e | e
      · rw [e]; exact hL
      · exact h.trans _ _ _ e hL
    rcases fst hW y hy with e | e
    · rw [e]; exact a
    · exact h.trans _ _ _ a e
  constructor
  · refine (p1.append p2).trans ?_
    have : (A.take s ++ B.take q ++ (A.drop s ++ B.drop q)).Perm (A.take s ++ A.drop s ++ (B.take q ++ B.drop q)) := by
      rw [List.append_assoc, List.append_assoc]
      refine List.Perm.append_left _ ?_
      rw [← List.append_assoc, ← List.append_assoc]
      exact List.Perm.append_right _ List.perm_append_comm
    rwa [List.take_append_drop, List.take_append_drop] at this
  · refine pw_split.2 ⟨s1, s2, fun x hx y hy => ?_⟩
    rcases List.mem_append.1 (p1.mem_iff.1 hx) with hx | hx <;> rcases List.mem_append.1 (p2.mem_iff.1 hy) with hy | hy
    · exact hAA x hx y hy
    · rcases h1 with e | e | e
      · subst e; simp at hx
      · subst e; simp at hy
      · exact cross hA hB hs e x hx y hy
    · rcases h2 with e | e | e
      · subst e; simp at hy
      · subst e; simp at hx
      · exact cross hB hA hq e x hx y hy
    · exact hBB x hx y hy
/-- Blocks of one length, the last one may be shorter. -/
def Chop (bs : Nat) : List (List Int) → Prop
  | [] => True
  | [A] => 1 ≤ A.length ∧ A.length ≤ bs
  | A :: B :: E => A.length = bs ∧ Chop bs (B :: E)
theorem chop_one {bs : Nat} (hb : 1 ≤ bs) : ∀ {E : List (List Int)}, Chop bs E → E.flatten.length ≤ bs → E = [] ∨ ∃ A, E = [A]
  | [], _, _ => Or.inl rfl
  | [A], _, _ => Or.inr ⟨A, rfl⟩
  | A :: B :: E, h, hl => by
    exfalso
    have h1 : A.length = bs := h.1
    have h2 : 1 ≤ B.length := by
      cases E with
      | nil => exact h.2.1
      | cons C E => have := h.2.1; omega
    simp at hl; omega
theorem chop_app {bs : Nat} : ∀ {D E : List (List Int)}, (∀ A ∈ D, A.length = bs) → 1 ≤ bs → Chop bs E → Chop bs (D ++ E)
  | [], _, _, _, h => h
  | [A], [], hD, hb, _ => by have := hD A (by simp); exact ⟨by omega, by omega⟩
  | [A], B :: E, hD, hb, h => ⟨hD A (by simp), h⟩
  | A :: B :: D, E, hD, hb, h => ⟨hD A (by simp), chop_app (D := B :: D) (fun X hX => hD X (by simp [List.mem_cons.1 hX])) hb h⟩
/-- The blocks: each is sorted, each stands ahead of the later ones. -/
def Bls (L : Int → Int → Prop) (E : List (List Int)) : Prop := E.Pairwise Bef ∧ ∀ A ∈ E, A.Pairwise L
theorem Bls.merge {D E : List (List Int)} {A B R : List Int} (h : Bls L (D ++ A :: B :: E)) (hp : R.Perm (A ++ B)) (hs : R.Pairwise L) : Bls L ((D ++ [R]) ++ E) := by
  obtain ⟨h1, h2⟩ := h
  obtain ⟨a1, a2, a3⟩ := List.pairwise_append.1 h1
  obtain ⟨b1, b2⟩ := List.pairwise_cons.1 a2
  obtain ⟨b3, b4⟩ := List.pairwise_cons.1 b2
  have mem : ∀ x, x ∈ R → x ∈ A ∨ x ∈ B := fun x hx => List.mem_append.1 (hp.mem_iff.1 hx)
  refine ⟨?_, fun X hX => ?_⟩
  · rw [List.append_assoc]
    refine List.pairwise_append.2 ⟨a1, List.pairwise_cons.2 ⟨fun X hX x hx y hy => ?_, b4⟩, fun X hX Y hY x hx y hy => ?_⟩
    · rcases mem x hx with e | e
      · exact b1 X (List.mem_cons_of_mem _ hX) x e y hy
      · exact b3 X hX x e y hy
    · rcases List.mem_cons.1 hY with e | e
      · subst e
        rcases mem y hy with e | e
        · exact a3 X hX A (by simp) x hx y e
        · exact a3 X hX B (by simp) x hx y e
      · have e : Y ∈ E := e
        exact a3 X hX Y (by simp [e]) x hx y hy
  · rcases List.mem_append.1 hX with e | e
    · rcases List.mem_append.1 e with e | e
      · exact h2 X (by simp [e])
      · simp at e; subst e; exact hs
    · exact h2 X (by simp [e])
theorem Bls.pair {D E : List (List Int)} {A B : List Int} (h : Bls L (D ++ A :: B :: E)) : A.Pairwise L ∧ B.Pairwise L ∧ Bef A B := by
  obtain ⟨h1, h2⟩ := h
  obtain ⟨a1, a2, a3⟩ := List.pairwise_append.1 h1
  exact ⟨h2 A (by simp), h2 B (by simp), (List.pairwise_cons.1 a2).1 B (by simp)⟩
/-- Two lists sorted alike are one. -/
theorem uniq (h : Ord c L) {X Y : List Int} (hp : X.Perm Y) (hX : X.Pairwise L) (hY : Y.Pairwise L) : X = Y :=
  List.Perm.eq_of_pairwise (fun a b _ _ h1 h2 => (h.asym a b h1 h2).elim) hX hY hp
end
end St
end Go.Proofs.YtmeoafodcniliaaGreatDoor.C24
