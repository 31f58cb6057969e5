/- A region that draws its order: operations that only read, in any order, and then the others, one behind the other. -/
import Derived.Test.YtmeoafodcniliaaGreatDoorInv
import Derived.Deep.QuietTactic
import Derived.BigQuiet
namespace Go.Proofs.YtmeoafodcniliaaGreatDoor
open Go.RowKit
set_option linter.unusedSimpArgs false
set_option linter.unusedVariables false
section
variable {P : Program} {ops : Array Oper} {Q : Exit → Act → World → Prop} {C : World → Prop}
/-- Each guard stands ahead. -/
def guardB (ops : Array Oper) : Bool := (List.range ops.size).all fun i => ((ops[i]?).map fun o => match o.guard with | none => true | some (g, _) => decide (g < i)).getD true
/-- Each operation below n is waited for by a later one, n at the most. -/
def closB (ops : Array Oper) (n : Nat) : Bool := (List.range n).all fun j => (List.range (n + 1)).any fun i => decide (j < i) && ((ops[i]?).map fun o => o.after.any fun e => Region.binds .any e && e.on == j).getD false
/-- Each operation behind n waits for the one ahead of it. -/
def chainB (ops : Array Oper) (n : Nat) : Bool := (List.range ops.size).all fun i => !(decide (n < i)) || ((ops[i]?).map fun o => o.after.any fun e => Region.binds .any e && e.on == i - 1).getD false
theorem guardB_spec (h : guardB ops = true) (i : Nat) (o : Oper) (ho : ops[i]? = some o) (g : Nat) (b : Bool) (hg : o.guard = some (g, b)) : g < i := by
  have hi : i < ops.size := by
    rcases Nat.lt_or_ge i ops.size with h1 | h1
    · exact h1
    · rw [Array.getElem?_eq_none h1] at ho; cases ho
  have := List.all_eq_true.1 h i (List.mem_range.2 hi)
  rw [ho] at this
  simp only [Option.map_some, Option.getD_some, hg] at this
  simpa using this
theorem closB_spec {n : Nat} (h : closB ops n = true) (j : Nat) (hj : j < n) : ∃ i o e, j < i ∧ i ≤ n ∧ ops[i]? = some o ∧ e ∈ o.after ∧ Region.binds .any e = true ∧ e.on = j := by
  have h1 := List.all_eq_true.1 h j (List.mem_range.2 hj)
  obtain ⟨i, hi, h2⟩ := List.any_eq_true.1 h1
  have hi := List.mem_range.1 hi
  rw [Bool.and_eq_true, decide_eq_true_eq] at h2
  obtain ⟨h3, h4⟩ := h2
  cases ho : ops[i]? with
  | none => rw [ho] at h4; simp at h4
  | some o =>
    rw [ho] at h4
    simp only [Option.map_some, Option.getD_some] at h4
    obtain ⟨e, he, h5⟩ := Array.any_eq_true'.1 h4
    rw [Bool.and_eq_true, beq_iff_eq] at h5
    exact ⟨i, o, e, h3, by omega, ho, he, h5.1, h5.2⟩
theorem chainB_spec {n : Nat} (h : chainB ops n = true) (i : Nat) (hi : i < ops.size) (hn : n < i) : ∃ o e, ops[i]? = some o ∧ e ∈ o.after ∧ Region.binds .any e = true ∧ e.on = i - 1 := by
  have h1 := List.all_eq_true.1 h i (List.mem_range.2 hi)
  rw [decide_eq_true hn, Bool.not_true, Bool.false_or] at h1
  cases ho : ops[i]? with
  | none => rw [ho] at h1; simp at h1
  | some o =>
    rw [ho] at h1
    simp only [Option.map_some, Option.getD_some] at h1
    obtain ⟨e, he, h5⟩ := Array.any_eq_true'.1 h1
    rw [Bool.and_eq_true, beq_iff_eq] at h5
    exact ⟨o, e, rfl, he, h5.1, h5.2⟩
theorem wpAny_more : ∀ (fuel : Nat) (listed : Array Bool) (a : Act) (w : World), wpAny P .any ops Q fuel listed a w → wpAny P .any ops Q (fuel + 1) listed a w
  | 0, listed, a, w, h => ⟨fun _ => h.2, fun i hi => by rw [h.1] at hi; cases hi⟩
  | fuel + 1, listed, a, w, h => ⟨h.1, fun i hi => wpOp_mono (fun a w h => wpAny_more fuel _ a w h) (h.2 i hi)⟩
theorem wpAny_fuel {m : Nat} (d : Nat) {listed : Array Bool} {a : Act} {w : World} (h : wpAny P .any ops Q m listed a w) : wpAny P .any ops Q (d + m) listed a w := by
  induction d with
  | zero => rw [Nat.zero_add]; exact h
  | succ d ih => rw [Nat.add_right_comm]; exact wpAny_more _ _ _ _ ih
theorem listed_true {l : Array Bool} {i : Nat} (h : l.getD i false = true) : l.getD i true = true := by
  rcases Nat.lt_or_ge i l.size with h1 | h1
  · simp [Array.getD, h1] at h ⊢; exact h
  · simp [Array.getD, Nat.not_lt.2 h1] at h
/-- The rest, one behind the other. -/
theorem wpAny_tail {n : Nat} (hb : backB ops = true) (hch : chainB ops n = true) : ∀ (l : List Oper) (k : Nat) (listed : Array Bool) (a : Act) (w : World), (∀ j, l[j]? = ops[k + j]?) → n ≤ k → listed.size = ops.size →
    (∀ i, i < k → i < ops.size → listed.getD i false = true) → (∀ i, k ≤ i → i < ops.size → listed.getD i true = false) → wpList P ops Q l a w → wpAny P .any ops Q l.length listed a w
  | [], k, listed, a, w, hl, hk, hs, h1, h2, h => by
    refine ⟨?_, h⟩
    rw [List.eq_nil_iff_forall_not_mem]
    intro i hi
    obtain ⟨hu, o, ho, _⟩ := mem_ready.1 hi
    have hi : i < ops.size := (Array.getElem?_eq_some_iff.1 ho).1
    have hk0 : ops.size ≤ k := by
      have := hl 0
      simp at this; exact this
    have := listed_true (h1 i (by omega) hi)
    rw [hu] at this; cases this
  | o :: l, k, listed, a, w, hl, hk, hs, h1, h2, h => by
    have h0 : ops[k]? = some o := by simpa using (hl 0).symm
    have hks : k < ops.size := (Array.getElem?_eq_some_iff.1 h0).1
    have hready : k ∈ Region.ready .any ops listed := mem_ready.2 ⟨h2 k (Nat.le_refl _) hks, o, h0, fun e he _ => by
      have := backB_spec hb k o h0 e he
      exact h1 _ this (by omega)⟩
    refine ⟨fun hr => (by rw [hr] at hready; cases hready), fun i hi => ?_⟩
    obtain ⟨hu, oi, hoi, hall⟩ := mem_ready.1 hi
    have hisz : i < ops.size := (Array.getElem?_eq_some_iff.1 hoi).1
    have hik : k ≤ i := by
      rcases Nat.lt_or_ge i k with hlt | hge
      · have := listed_true (h1 i hlt hisz); rw [hu] at this; cases this
      · exact hge
    have hki : i = k := by
      rcases Nat.lt_or_ge k i with hlt | hge
      · exfalso
        obtain ⟨o', e, ho', he, hbd, hon⟩ := chainB_spec hch i hisz (by omega)
        rw [hoi] at ho'; injection ho' with ho'; subst ho'
        have := listed_true (hall e he hbd)
        rw [hon, h2 (i - 1) (by omega) (by omega)] at this; cases this
      · omega
    subst hki
    have hk' : wpOp P ops Q i (wpList P ops Q l) a w := by unfold wpOp; simp only [h0]; exact h
    refine wpOp_mono (fun a' w' h' => wpAny_tail hb hch l (i + 1) _ a' w' (fun j => by have := hl (j + 1); simpa [Nat.add_assoc, Nat.add_comm 1 j] using this) (by omega) (by rw [Array.size_setIfInBounds]; exact hs) ?_ ?_ h') hk'
    · intro j hj hjs
      by_cases hji : j = i
      · subst hji; simp [Array.getD, hs, hjs]
      · exact getD_set_true (h1 j (by omega) hjs)
    · intro j hj hjs
      rw [getD_set_ne true (by omega)]
      exact h2 j (by omega) hjs
theorem yielded_head {ops0 : Array Oper} {g : Nat} {t : Array Value} (h : ops0[g]? = ops[g]?) : yielded ops0 t g = yielded ops t g := by
  unfold yielded; rw [h]
theorem wanted_head {ops0 : Array Oper} {n i : Nat} {o : Oper} {t : Array Value} (hg : guardB ops = true) (h : ∀ j, j < n → ops0[j]? = ops[j]?) (hi : i < n) (ho : ops[i]? = some o) : Region.wanted o (yielded ops0 t) = Region.wanted o (yielded ops t) := by
  unfold Region.wanted
  cases hgd : o.guard with
  | none => rfl
  | some p =>
    obtain ⟨g, b⟩ := p
    have := guardB_spec hg i o ho g b hgd
    simp only
    rw [yielded_head (h g (by omega))]
theorem wpOp_of_head {ops0 : Array Oper} {n i : Nat} {a : Act} {K : Act → Prop} {K' : Act → World → Prop} {w : World} (hg : guardB ops = true) (heq : ∀ j, j < n → ops0[j]? = ops[j]?) (hi : i < n) (hC : C w) (h : ∀ a w', C w' → K a → K' a w') (hh : qOp P ops0 C i K a) : wpOp P ops Q i K' a w := by
  unfold qOp at hh
  unfold wpOp
  rw [← heq i hi]
  split
  · rename_i ho; simp only [ho] at hh; exact h _ _ hC hh
  · rename_i o ho
    simp only [ho] at hh
    rw [wanted_head hg heq hi ((heq i hi).symm.trans ho)] at hh
    split
    · rename_i hw; simp only [hw, if_true] at hh; exact .inl (Oper.wp_of_quiet hC h hh)
    · rename_i hw; simp only [hw] at hh; exact h _ _ hC hh
theorem wpAny_head {ops0 : Array Oper} {n : Nat} {l : List Oper} {Q0 : Act → Prop} (hb : backB ops = true) (hg : guardB ops = true) (hcl : closB ops n = true) (hch : chainB ops n = true) (hn : ops0.size = n) (hns : n ≤ ops.size)
    (heq : ∀ j, j < n → ops0[j]? = ops[j]?) (hl : ∀ j, l[j]? = ops[n + j]?) (hQ : ∀ a w, C w → Q0 a → wpList P ops Q l a w) :
    ∀ (fuel : Nat) (listed0 listed : Array Bool) (a : Act) (w : World), C w → listed0.size = n → listed.size = ops.size → (∀ i, i < n → listed.getD i false = listed0.getD i false) → (∀ i, n ≤ i → i < ops.size → listed.getD i true = false) →
      (∀ i o, i < n → listed0.getD i false = true → ops[i]? = some o → ∀ e ∈ o.after, Region.binds .any e = true → listed0.getD e.on false = true) →
      wpAnyQ P .any ops0 C Q0 fuel listed0 a → wpAny P .any ops Q (fuel + l.length) listed a w := by
  have eqT : ∀ (l0 l1 : Array Bool), l0.size = n → l1.size = ops.size → (∀ i, i < n → l1.getD i false = l0.getD i false) → ∀ i, i < n → l1.getD i true = l0.getD i true := by
    intro l0 l1 h0 h1 h i hi
    have := h i hi
    have hs : i < l1.size := by omega
    have hs0 : i < l0.size := by omega
    simpa [Array.getD, hs, hs0] using this
  have noready : ∀ (l0 : Array Bool), l0.size = n → Region.ready .any ops0 l0 = [] → ∀ i, i < n → l0.getD i false = true := by
    intro l0 h0 hr i
    induction i using Nat.strongRecOn with
    | ind i ih =>
      intro hi
      cases hx : l0.getD i false with
      | true => rfl
      | false =>
        exfalso
        have hi0 : i < ops0.size := by omega
        have hs0 : i < l0.size := by omega
        have : i ∈ Region.ready .any ops0 l0 := mem_ready.2 ⟨by simpa [Array.getD, hs0] using hx, ops0[i], Array.getElem?_eq_getElem hi0, fun e he hbd => by
          have := backB_spec hb i ops0[i] (by rw [← heq i hi]; exact Array.getElem?_eq_getElem hi0) e he
          exact ih _ this (by omega)⟩
        rw [hr] at this; cases this
  intro fuel
  induction fuel with
  | zero =>
    intro listed0 listed a w hC hs0 hs he hu hd h
    obtain ⟨hr, h⟩ := h
    have hall := noready listed0 hs0 hr
    rw [Nat.zero_add]
    exact wpAny_tail hb hch l n listed a w hl (Nat.le_refl _) hs (fun i hi _ => by rw [he i hi]; exact hall i hi) hu (hQ a w hC h)
  | succ fuel ih =>
    intro listed0 listed a w hC hs0 hs he hu hd h
    by_cases hr : Region.ready .any ops0 listed0 = []
    · have hall := noready listed0 hs0 hr
      exact wpAny_fuel (fuel + 1) (wpAny_tail hb hch l n listed a w hl (Nat.le_refl _) hs (fun i hi _ => by rw [he i hi]; exact hall i hi) hu (hQ a w hC (h.1 hr)))
    · rw [Nat.add_right_comm]
      have up : ∀ i, i ∈ Region.ready .any ops0 listed0 → i ∈ Region.ready .any ops listed := by
        intro i hi
        obtain ⟨hx, o, ho, hall⟩ := mem_ready.1 hi
        have hin : i < n := by rw [← hn]; exact (Array.getElem?_eq_some_iff.1 ho).1
        have ho' : ops[i]? = some o := (heq i hin).symm.trans ho
        refine mem_ready.2 ⟨by rw [eqT listed0 listed hs0 hs he i hin]; exact hx, o, ho', fun e hee hbd => ?_⟩
        have := backB_spec hb i o ho' e hee
        rw [he _ (by omega)]; exact hall e hee hbd
      refine ⟨fun h0 => ?_, fun i hi => ?_⟩
      · exfalso
        cases hr2 : Region.ready .any ops0 listed0 with
        | nil => exact hr hr2
        | cons x t =>
          have := up x (by rw [hr2]; exact List.mem_cons_self)
          rw [h0] at this; cases this
      · obtain ⟨hx, o, ho, hall⟩ := mem_ready.1 hi
        have hisz : i < ops.size := (Array.getElem?_eq_some_iff.1 ho).1
        have hin : i < n := by
          rcases Nat.lt_or_ge i n with hlt | hge
          · exact hlt
          · exfalso
            rcases Nat.lt_or_ge n i with hlt | hge2
            · obtain ⟨o', e, ho', hee, hbd, hon⟩ := chainB_spec hch i hisz hlt
              rw [ho] at ho'; injection ho' with ho'; subst ho'
              have := listed_true (hall e hee hbd)
              rw [hon, hu (i - 1) (by omega) (by omega)] at this; cases this
            · obtain rfl : i = n := by omega
              have allT : ∀ d j, j + d = i → 0 < d → listed0.getD j false = true := by
                intro d
                induction d using Nat.strongRecOn with
                | ind d ih2 =>
                  intro j hj hd0
                  obtain ⟨i', o', e, h1, h2, ho', hee, hbd, hon⟩ := closB_spec hcl j (by omega)
                  rcases Nat.lt_or_ge i' i with hlt2 | hge3
                  · have := ih2 (i - i') (by omega) i' (by omega) (by omega)
                    have := hd i' o' hlt2 this ho' e hee hbd
                    rwa [hon] at this
                  · obtain rfl : i' = i := by omega
                    rw [ho] at ho'; injection ho' with ho'; subst ho'
                    have := hall e hee hbd
                    rw [hon, he j (by omega)] at this
                    exact this
              apply hr
              rw [List.eq_nil_iff_forall_not_mem]
              intro j hj
              obtain ⟨hxj, oj, hoj, _⟩ := mem_ready.1 hj
              have hjn : j < i := by rw [← hn]; exact (Array.getElem?_eq_some_iff.1 hoj).1
              have := listed_true (allT (i - j) j (by omega) (by omega))
              rw [hxj] at this; cases this
        have hin0 : i < listed0.size := by omega
        have hin1 : i < listed.size := by omega
        have hready0 : i ∈ Region.ready .any ops0 listed0 := mem_ready.2 ⟨by rw [← eqT listed0 listed hs0 hs he i hin]; exact hx, o, (heq i hin).trans ho, fun e hee hbd => by
          have := backB_spec hb i o ho e hee
          rw [← he _ (by omega)]; exact hall e hee hbd⟩
        refine wpOp_of_head hg heq hin hC (fun a' w' hC' h' => ih (listed0.setIfInBounds i true) (listed.setIfInBounds i true) a' w' hC' (by rw [Array.size_setIfInBounds]; exact hs0) (by rw [Array.size_setIfInBounds]; exact hs) ?_ ?_ ?_ h') (h.2 i hready0)
        · intro j hj
          by_cases hji : i = j
          · subst hji; simp [Array.getD, hin0, hin1]
          · rw [getD_set_ne false hji, getD_set_ne false hji]; exact he j hj
        · intro j hj hjs
          rw [getD_set_ne true (by omega)]; exact hu j hj hjs
        · intro j oj hj hlj hoj e hee hbd
          by_cases hji : i = j
          · subst hji
            rw [ho] at hoj; injection hoj with hoj; subst hoj
            have := backB_spec hb i o ho e hee
            exact getD_set_true (by rw [← he _ (by omega)]; exact hall e hee hbd)
          · rw [getD_set_ne false hji] at hlj
            exact getD_set_true (hd j oj hj hlj hoj e hee hbd)
/-- **Reads in any order, then the rest in order**: a region whose first n operations only read. -/
theorem region_then {id n : Nat} {a : Act} {w : World} {l : List Oper} (hm : P.follows .mixedOrders = true)
    (hB : (Region.lexB .any (l.take n).toArray && backB l.toArray && guardB l.toArray && closB l.toArray n && chainB l.toArray n && decide (n ≤ l.length)) = true)
    (h : wpQuiet P (l.take n).toArray (fun w' => ∃ n, w' = w.drewN n) (fun a' => ∀ w', (∃ n, w' = w.drewN n) → wpList P l.toArray Q (l.drop n) a' w') (l.take n) a) : (Code.region id l.toArray true).wp P Q a w := by
  simp only [Bool.and_eq_true, decide_eq_true_eq] at hB
  obtain ⟨⟨⟨⟨⟨h1, h2⟩, h3⟩, h4⟩, h5⟩, h6⟩ := hB
  simp only [Region.lexB, Bool.and_eq_true] at h1
  refine wp_region_any hm ?_
  have hx := wpAnyQ_lex (C := fun w' => ∃ n, w' = w.drewN n) (md := .any) (P := P) h1.1 (l.take n) 0 (Array.replicate (l.take n).toArray.size false) a (by simp) (by simpa using h1.2) h
  have hlen : (l.take n).length = n := by rw [List.length_take]; omega
  have hy := wpAny_head (ops := l.toArray) (ops0 := (l.take n).toArray) (n := n) (l := l.drop n) (Q := Q) (C := fun w' => ∃ n, w' = w.drewN n) h2 h3 h4 h5 (by simpa using hlen) (by simpa using h6)
    (fun j hj => by simp [List.getElem?_take, hj]) (fun j => by simp) (fun a w hC hq => hq w hC) _ _ (Array.replicate l.toArray.size false) a { w with drawn := w.drawn + 1 } ⟨1, rfl⟩ (by simpa using hlen) (by simp)
    (fun i hi => by simp [Array.getD]) (fun i _ hi => by
      have : i < l.length := by simpa using hi
      simp [Array.getD, this]) (fun i o hi hl => by simp [Array.getD] at hl) hx
  have e : (l.take n).length + (l.drop n).length = l.toArray.size := by rw [hlen, List.length_drop]; simp; omega
  rw [e] at hy
  exact hy
end
end Go.Proofs.YtmeoafodcniliaaGreatDoor
