/- The order of the cores: plain laws, no program in sight -/
import Derived.Test.YtmeoafodcniliaaGreatDoorStF
import Derived.Test.YtmeoafodcniliaaGreatDoorSpK
namespace Go.Proofs.YtmeoafodcniliaaGreatDoor.C24
set_option linter.unusedSimpArgs false
set_option linter.unusedVariables false
namespace St
/-- A greater core stands first; of one core the smaller vertex. -/
def Lt (zs : List Int) (x y : Int) : Prop := zs.getD y.toNat 0 < zs.getD x.toNat 0 ∨ (zs.getD x.toNat 0 = zs.getD y.toNat 0 ∧ x < y)
theorem ord_cf (zs : List Int) : Ord (Sp.cf zs) (Lt zs) := by
  refine ⟨fun x y z h1 h2 => ?_, fun x y h1 h2 => ?_, fun x y hxy h => ?_, fun x y hxy h => ?_⟩
  · unfold Lt at *; omega
  · unfold Lt at *; omega
  · unfold Sp.cf at h; unfold Lt
    split at h
    · omega
    · split at h <;> omega
  · unfold Sp.cf at h; unfold Lt
    split at h
    · omega
    · omega
def idx (n : Nat) : List Int := (List.range n).map fun i : Nat => (i : Int)
theorem idx_length (n : Nat) : (idx n).length = n := by simp [idx]
theorem idx_lt (n : Nat) : (idx n).Pairwise (· < ·) := by
  unfold idx; rw [List.pairwise_map]
  exact List.pairwise_lt_range.imp (fun h => by omega)
/-- The vertices by falling core. -/
def IsOrd (zs : List Int) (n : Nat) (T : List Int) : Prop := T.Perm (idx n) ∧ T.Pairwise (Lt zs)
theorem IsOrd.uniq {zs : List Int} {n : Nat} {T T' : List Int} (h : IsOrd zs n T) (h' : IsOrd zs n T') : T = T' := St.uniq (ord_cf zs) (h.1.trans h'.1.symm) h.2 h'.2
theorem IsOrd.len {zs : List Int} {n : Nat} {T : List Int} (h : IsOrd zs n T) : T.length = n := by rw [h.1.length_eq, idx_length]
theorem IsOrd.mem {zs : List Int} {n : Nat} {T : List Int} (h : IsOrd zs n T) : ∀ z ∈ T, ∃ t : Nat, t < n ∧ z = (t : Int) := fun z hz => by
  obtain ⟨t, ht, rfl⟩ := List.mem_map.1 (h.1.mem_iff.1 hz)
  exact ⟨t, List.mem_range.1 ht, rfl⟩
theorem filter_or (p q : Nat → Bool) : ∀ l : List Nat, (l.filter (fun i => p i || q i)).Perm (l.filter p ++ l.filter (fun i => !p i && q i))
  | [] => List.Perm.refl _
  | x :: l => by
    have ih := filter_or p q l
    cases hp : p x <;> cases hq : q x <;> simp [List.filter_cons, hp, hq]
    · exact ih
    · exact (List.Perm.cons x ih).trans List.perm_middle.symm
    · exact ih
    · exact ih
/-- Where the document's own search stands. -/
structure OrI (zs : List Int) (n : Nat) (O : List Nat) (dn : Nat → Bool) (most : Int) : Prop where
  perm : O.Perm ((List.range n).filter dn)
  sorted : (O.map fun i : Nat => (i : Int)).Pairwise (Lt zs)
  up : ∀ i, i < n → dn i = false → zs.getD i 0 ≤ most
  gt : ∀ o ∈ O, ∀ i, i < n → dn i = false → zs.getD i 0 < zs.getD o 0
def fresh (zs : List Int) (dn : Nat → Bool) (next : Int) (i : Nat) : Bool := !dn i && zs.getD i 0 == next
def dnA (zs : List Int) (dn : Nat → Bool) (next : Int) (a i : Nat) : Bool := dn i || (decide (i < a) && zs.getD i 0 == next)
theorem OrI.start (zs : List Int) (n : Nat) (most : Int) (h : ∀ i, i < n → zs.getD i 0 ≤ most) : OrI zs n [] (fun _ => false) most :=
  ⟨by simp, List.Pairwise.nil, fun i hi _ => h i hi, fun o ho => by cases ho⟩
theorem OrI.step {zs : List Int} {n : Nat} {O : List Nat} {dn : Nat → Bool} {most next : Int} (h : OrI zs n O dn most) (h1 : ∀ i, i < n → dn i = false → zs.getD i 0 ≤ next) :
    OrI zs n (O ++ (List.range n).filter (fresh zs dn next)) (dnA zs dn next n) next := by
  have hd : ∀ i, i < n → dnA zs dn next n i = (dn i || zs.getD i 0 == next) := fun i hi => by simp [dnA, hi]
  refine ⟨?_, ?_, fun i hi hf => ?_, fun o ho i hi hf => ?_⟩
  · have e : (List.range n).filter (dnA zs dn next n) = (List.range n).filter (fun i => dn i || zs.getD i 0 == next) := List.filter_congr fun i hi => hd i (List.mem_range.1 hi)
    rw [e]
    exact (List.Perm.append_right _ h.perm).trans (filter_or dn (fun i => zs.getD i 0 == next) _).symm
  · rw [List.map_append]
    refine List.pairwise_append.2 ⟨h.sorted, ?_, fun x hx y hy => ?_⟩
    · rw [List.pairwise_map]
      refine (List.Pairwise.filter _ List.pairwise_lt_range).imp_of_mem (fun {a b} ha hb hab => ?_)
      have ha := (List.mem_filter.1 ha).2
      have hb := (List.mem_filter.1 hb).2
      simp [fresh] at ha hb
      right
      have e1 : zs.getD a 0 = next := by simpa [List.getD] using ha.2
      have e2 : zs.getD b 0 = next := by simpa [List.getD] using hb.2
      simp only [Int.toNat_natCast]
      exact ⟨e1.trans e2.symm, by omega⟩
    · obtain ⟨o, ho, rfl⟩ := List.mem_map.1 hx
      obtain ⟨i, hi, rfl⟩ := List.mem_map.1 hy
      obtain ⟨hi1, hi2⟩ := List.mem_filter.1 hi
      left
      simp only [Int.toNat_natCast]
      exact h.gt o ho i (List.mem_range.1 hi1) (by unfold fresh at hi2; cases hdi : dn i <;> simp [hdi] at hi2 ⊢)
  · rw [hd i hi] at hf
    exact h1 i hi (by cases hdi : dn i <;> simp [hdi] at hf ⊢)
  · rw [hd i hi] at hf
    have hdi : dn i = false := by cases hdi : dn i <;> simp [hdi] at hf ⊢
    have hne : zs.getD i 0 ≠ next := fun he => by rw [hdi, he] at hf; simp at hf
    rcases List.mem_append.1 ho with ho | ho
    · exact h.gt o ho i hi hdi
    · have ho2 := (List.mem_filter.1 ho).2
      have e2 : zs.getD o 0 = next := by unfold fresh at ho2; rw [Bool.and_eq_true] at ho2; exact beq_iff_eq.1 ho2.2
      have := h1 i hi hdi
      omega
theorem OrI.done {zs : List Int} {n : Nat} {O : List Nat} {dn : Nat → Bool} {most : Int} (h : OrI zs n O dn most) (hl : n ≤ O.length) : IsOrd zs n (O.map fun i : Nat => (i : Int)) := by
  have hall : (List.range n).filter dn = List.range n := by
    refine List.filter_eq_self.2 ?_
    have hle : ((List.range n).filter dn).length = (List.range n).length := by have := h.perm.length_eq; have := List.length_filter_le dn (List.range n); simp at *; omega
    exact List.length_filter_eq_length_iff.1 hle
  have hp := h.perm
  rw [hall] at hp
  exact ⟨hp.map _, h.sorted⟩
theorem OrI.left {zs : List Int} {n : Nat} {O : List Nat} {dn : Nat → Bool} {most : Int} (h : OrI zs n O dn most) (hl : O.length < n) : ∃ i, i < n ∧ dn i = false := by
  refine Classical.byContradiction fun hno => ?_
  have hall : (List.range n).filter dn = List.range n := List.filter_eq_self.2 fun i hi => by
    cases hd : dn i
    · exact absurd ⟨i, List.mem_range.1 hi, hd⟩ hno
    · rfl
  have := h.perm.length_eq
  rw [hall] at this; simp at this; omega
/-- The greatest core that is still to come, of the first a. -/
def nextA (zs : List Int) (dn : Nat → Bool) : Nat → Int
  | 0 => -1
  | a + 1 => if dn a = false then max (nextA zs dn a) (zs.getD a 0) else nextA zs dn a
theorem nextA_le (zs : List Int) (dn : Nat → Bool) : ∀ a i, i < a → dn i = false → zs.getD i 0 ≤ nextA zs dn a
  | a + 1, i, hi, hd => by
    unfold nextA
    by_cases h : i = a
    · subst h; rw [if_pos hd]; omega
    · have := nextA_le zs dn a i (by omega) hd
      split <;> omega
theorem nextA_is (zs : List Int) (dn : Nat → Bool) : ∀ a, (∀ i, i < a → 0 ≤ zs.getD i 0) → (∃ i, i < a ∧ dn i = false) → ∃ i, i < a ∧ dn i = false ∧ zs.getD i 0 = nextA zs dn a
  | 0, _, ⟨i, h, _⟩ => by omega
  | a + 1, hz, ⟨i, hi, hd⟩ => by
    by_cases ha : dn a = false
    · have e : nextA zs dn (a + 1) = max (nextA zs dn a) (zs.getD a 0) := by rw [nextA, if_pos ha]
      rw [e]
      by_cases hm : nextA zs dn a ≤ zs.getD a 0
      · exact ⟨a, by omega, ha, by omega⟩
      · by_cases hex : ∃ i, i < a ∧ dn i = false
        · obtain ⟨j, h1, h2, h3⟩ := nextA_is zs dn a (fun i hi => hz i (by omega)) hex
          exact ⟨j, by omega, h2, by omega⟩
        · have hn : nextA zs dn a = -1 := by
            clear e hm
            have : ∀ b, b ≤ a → nextA zs dn b = -1 := by
              intro b
              induction b with
              | zero => intro _; rfl
              | succ b ih =>
                intro hb
                have hdb : ¬ dn b = false := fun h => hex ⟨b, by omega, h⟩
                rw [nextA, if_neg hdb]; exact ih (by omega)
            exact this a (Nat.le_refl _)
          have := hz a (by omega)
          omega
    · have e : nextA zs dn (a + 1) = nextA zs dn a := by rw [nextA, if_neg ha]
      rw [e]
      have hia : i < a := by
        rcases Nat.lt_or_ge i a with h | h
        · exact h
        · obtain rfl : i = a := by omega
          exact absurd hd ha
      obtain ⟨j, h1, h2, h3⟩ := nextA_is zs dn a (fun i hi => hz i (by omega)) ⟨i, hia, hd⟩
      exact ⟨j, by omega, h2, h3⟩
/-- Something new is laid each time. -/
theorem OrI.grows {zs : List Int} {n : Nat} {dn : Nat → Bool} {next : Int} (h : ∃ i, i < n ∧ dn i = false ∧ zs.getD i 0 = next) : 0 < ((List.range n).filter (fresh zs dn next)).length := by
  obtain ⟨i, h1, h2, h3⟩ := h
  refine List.length_pos_of_mem (a := i) (List.mem_filter.2 ⟨List.mem_range.2 h1, ?_⟩)
  unfold fresh; rw [h2, h3]; simp
end St
end Go.Proofs.YtmeoafodcniliaaGreatDoor.C24
