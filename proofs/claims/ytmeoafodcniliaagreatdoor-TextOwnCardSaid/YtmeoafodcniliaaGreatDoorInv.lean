/- A region that draws its order, by what stands behind each of its operations: no branching over the orders. -/
import Derived.Test.YtmeoafodcniliaaGreatDoorProg
import Derived.Test.YtmeoafodcniliaaGreatDoorWords
import Derived.Orders
import Derived.Deep.RegionHeld
import Derived.Deep.DeepCutAuto
namespace Go.Proofs.YtmeoafodcniliaaGreatDoor
open Go.RowKit
set_option linter.unusedSimpArgs false
set_option linter.unusedVariables false
/-- Nothing but block g has turned. -/
def Oth (g : Nat) (w w' : World) : Prop := Below g w w' ∧ ∀ b, b ≠ g → w'.heap[b]? = w.heap[b]?
theorem Oth.refl (g : Nat) (w : World) : Oth g w w := ⟨Below.refl _ _, fun _ _ => rfl⟩
theorem Oth.row (g : Nat) (w : World) (cs : Array Value) : Oth g w (w.setRow g cs) := ⟨below_setRow (Below.refl _ _) (Nat.le_refl _) _, fun b hb => setRow_other _ _ _ _ hb⟩
section
variable {P : Program} {ops : Array Oper} {o : Oper} {a : Act} {w : World} {dT sT elem t : TypeId} {dp sp : Option Addr} {dLen dCap sLen sCap g off : Nat} {cur cs : List Value}
theorem wpList_copy_at {rest : List Oper} {Q : Exit → Act → World → Prop} (hgd : o.guard = none) (d s : Operand)
    (ho : o.op = .call { callee := .builtin .copy, args := #[d, s], argTypes := #[dT, sT] }) (hu : P.underlying dT = some (.slice elem)) (hsz : (P.info? elem).map (·.size) = some 1)
    (hd : a.eval d = .slice dp dLen dCap) (hs : a.eval s = .slice sp sLen sCap) (hg : w.heap[g]? = some (.cells cur.toArray t (0, 0))) (hn : cs.length = Nat.min sLen dLen)
    (hpos : 0 < cs.length → dp = some ⟨g, off, none⟩ ∧ ∃ ad, sp = some ad ∧ ∀ j v, cs[j]? = some v → w.cell? (ad.add j) = some v)
    (hfit : off + cs.length ≤ cur.length) (h1 : ∀ v ∈ cs, v.oneCell' = true)
    (h : ∀ w', Hid (w'.heap[g]? = some (.cells (splice cur off cs).toArray t (0, 0))) → Hid (Oth g w w') → wpList P ops Q rest (a.put o.dst (goInt cs.length)) w') : wpList P ops Q (o :: rest) a w := by
  rcases Nat.eq_zero_or_pos cs.length with h0 | h0
  · have hc : cs = [] := List.eq_nil_of_length_eq_zero h0
    rw [hc] at hn h
    refine wpList_copy_nothing hgd d s dT sT ho elem hu hsz dp sp dLen dCap sLen sCap hd hs hn.symm (h w ?_ (Oth.refl g w))
    show _ = _
    rw [hg]; simp [splice]
  · obtain ⟨e1, ad, e2, hsrc⟩ := hpos h0
    rw [e1] at hd; rw [e2] at hs
    refine wpList_copy_own hgd d s dT sT ho elem hu hsz g off dLen dCap ad sLen sCap hd hs cur.toArray t hg cs hn hsrc (by simpa using hfit) h1 (h _ ?_ (Oth.row g w _))
    show _ = _
    rw [setRow_heap w g _ _ t _ hg]; simp [splice]
theorem step_copy_at {K : Act → World → Prop} {Q : Exit → Act → World → Prop} {E : Prop} (hgd : o.guard = none) (d s : Operand)
    (ho : o.op = .call { callee := .builtin .copy, args := #[d, s], argTypes := #[dT, sT] }) (hu : P.underlying dT = some (.slice elem)) (hsz : (P.info? elem).map (·.size) = some 1)
    (hd : a.eval d = .slice dp dLen dCap) (hs : a.eval s = .slice sp sLen sCap) (hg : w.heap[g]? = some (.cells cur.toArray t (0, 0))) (hn : cs.length = Nat.min sLen dLen)
    (hpos : 0 < cs.length → dp = some ⟨g, off, none⟩ ∧ ∃ ad, sp = some ad ∧ ∀ j v, cs[j]? = some v → w.cell? (ad.add j) = some v)
    (hfit : off + cs.length ≤ cur.length) (h1 : ∀ v ∈ cs, v.oneCell' = true)
    (h : ∀ w', Hid (w'.heap[g]? = some (.cells (splice cur off cs).toArray t (0, 0))) → Hid (Oth g w w') → K (a.put o.dst (goInt cs.length)) w') :
    if Region.wanted o (yielded ops a.tmps) = true then Oper.wp P o a w K Q else E := by
  have hw : Region.wanted o (yielded ops a.tmps) = true := by simp [Region.wanted, hgd]
  rw [if_pos hw]
  unfold Oper.wp
  rcases Nat.eq_zero_or_pos cs.length with h0 | h0
  · have hc : cs = [] := List.eq_nil_of_length_eq_zero h0
    rw [hc] at hn h
    have hrun := run_copy_none (P := P) w dT sT o.type elem dp sp dLen dCap sLen sCap hu hsz hn.symm
    have := h w (by show _ = _; rw [hg]; simp [splice]) (Oth.refl g w)
    simp only [execOp, ho, resolve, invoke, builtin, hd, hs]
    simp [hd, hs, hrun, Result.andThen]
    exact this
  · obtain ⟨e1, ad, e2, hsrc⟩ := hpos h0
    rw [e1] at hd; rw [e2] at hs
    have hrun := run_copy_row (P := P) w dT sT o.type elem g off dLen dCap ad sLen sCap cur.toArray t cs hu hsz hg hn hsrc (by simpa using hfit) h1
    have := h _ (by show _ = _; rw [setRow_heap w g _ _ t _ hg]) (Oth.row g w _)
    simp only [execOp, ho, resolve, invoke, builtin, hd, hs]
    simp [hd, hs, hrun, Result.andThen]
    exact this
end
section
variable {P : Program} {ops : Array Oper} {Q : Exit → Act → World → Prop}
/-- Which operations have come up. -/
def Ups (listed : Array Bool) : Nat → Bool := fun i => listed.getD i false
def upd1 (L : Nat → Bool) (i : Nat) : Nat → Bool := fun j => if j = i then true else L j
def unl (l : List Bool) : Nat := l.countP (· == false)
theorem unl_set : ∀ (l : List Bool) (i : Nat), l[i]? = some false → unl (l.set i true) + 1 = unl l
  | [], i, h => by simp at h
  | b :: l, 0, h => by simp at h; subst h; simp [unl]
  | b :: l, i + 1, h => by
    have := unl_set l i (by simpa using h)
    simp only [unl, List.set_cons_succ, List.countP_cons] at this ⊢; omega
theorem unl_zero {l : List Bool} (h : unl l = 0) (i : Nat) : l[i]? ≠ some false := fun hi => by
  have := unl_set l i hi; omega
theorem getD_false {l : Array Bool} {i : Nat} (h : l.getD i true = false) : l.toList[i]? = some false := by
  rw [Array.getElem?_toList]
  rcases Nat.lt_or_ge i l.size with h1 | h1
  · simp [Array.getD, h1] at h ⊢; exact h
  · simp [Array.getD, Nat.not_lt.2 h1] at h
theorem ups_set {l : Array Bool} {i : Nat} (h : l.getD i true = false) : Ups (l.setIfInBounds i true) = upd1 (Ups l) i := by
  have hi : i < l.size := by
    rcases Nat.lt_or_ge i l.size with h1 | h1
    · exact h1
    · simp [Array.getD, Nat.not_lt.2 h1] at h
  funext j
  unfold Ups upd1
  by_cases hj : j = i
  · subst hj; simp [Array.getD, hi]
  · rw [if_neg hj]
    simp [Array.getD, Array.getElem_setIfInBounds]
    by_cases hjl : j < l.size
    · simp [hjl, Ne.symm hj]
    · simp [hjl]
/-- Each operation waits for earlier ones alone. -/
def backB (ops : Array Oper) : Bool := (List.range ops.size).all fun i => ((ops[i]?).map fun o => o.after.all fun e => decide (e.on < i)).getD true
theorem backB_spec (h : backB ops = true) (i : Nat) (o : Oper) (ho : ops[i]? = some o) (e : Edge) (he : e ∈ o.after) : e.on < i := by
  have hi : i < ops.size := by
    rcases Nat.lt_or_ge i ops.size with h1 | h1
    · exact h1
    · rw [Array.getElem?_eq_none h1] at ho; cases ho
  have := List.all_eq_true.1 h i (List.mem_range.2 hi)
  rw [ho] at this
  simp only [Option.map_some, Option.getD_some] at this
  have := (Array.all_eq_true'.1 this) e he
  simpa using this
theorem wpAny_inv (Φ : (Nat → Bool) → Act → World → Prop) (hb : backB ops = true)
    (step : ∀ (L : Nat → Bool) (a : Act) (w : World) (i : Nat) (o : Oper), ops[i]? = some o → L i = false → (∀ e ∈ o.after, Region.binds .any e = true → L e.on = true) → Φ L a w →
      if Region.wanted o (yielded ops a.tmps) = true then o.wp P a w (Φ (upd1 L i)) Q else Φ (upd1 L i) (a.put o.dst undef) w)
    (done : ∀ (L : Nat → Bool) (a : Act) (w : World), (∀ i, i < ops.size → L i = true) → Φ L a w → Q .normal a w) :
    ∀ (fuel : Nat) (listed : Array Bool) (a : Act) (w : World), listed.size = ops.size → unl listed.toList ≤ fuel → Φ (Ups listed) a w → wpAny P .any ops Q fuel listed a w := by
  have hd : ∀ (listed : Array Bool) (a : Act) (w : World), listed.size = ops.size → Region.ready .any ops listed = [] → Φ (Ups listed) a w → Q .normal a w := fun listed a w hsz hr h => by
    refine done _ a w (fun i => ?_) h
    induction i using Nat.strongRecOn with
    | ind i ih =>
      intro hi
      cases hl : Ups listed i
      · exfalso
        have hin : i < listed.size := by omega
        have hl' : listed.getD i true = false := by simp [Ups, Array.getD, hin] at hl; simp [Array.getD, hin, hl]
        have : i ∈ Region.ready .any ops listed := mem_ready.2 ⟨hl', ops[i], Array.getElem?_eq_getElem hi, fun e he _ => by
          have := backB_spec hb i _ (Array.getElem?_eq_getElem hi) e he
          exact ih _ this (by omega)⟩
        rw [hr] at this; cases this
      · rfl
  intro fuel
  induction fuel with
  | zero =>
    intro listed a w hsz hu h
    have hr : Region.ready .any ops listed = [] := by
      rw [List.eq_nil_iff_forall_not_mem]
      intro i hi
      exact unl_zero (by omega) i (getD_false (mem_ready.1 hi).1)
    exact ⟨hr, hd listed a w hsz hr h⟩
  | succ fuel ih =>
    intro listed a w hsz hu h
    refine ⟨fun hr => hd listed a w hsz hr h, fun i hi => ?_⟩
    obtain ⟨hl, o, ho, hall⟩ := mem_ready.1 hi
    have hli : Ups listed i = false := by
      have := getD_false hl
      rw [Array.getElem?_toList] at this
      simp [Ups, Array.getD_eq_getD_getElem?, this]
    have hu' : unl (listed.setIfInBounds i true).toList ≤ fuel := by
      have := unl_set _ _ (getD_false hl)
      rw [Array.toList_setIfInBounds]; omega
    have hs := step (Ups listed) a w i o ho hli hall h
    have hsz' : (listed.setIfInBounds i true).size = ops.size := by rw [Array.size_setIfInBounds]; exact hsz
    unfold wpOp
    rw [ho]
    simp only
    split
    · rename_i hw; rw [if_pos hw] at hs
      exact Or.inl (Oper.wp_mono (fun a' w' h' => ih _ a' w' hsz' hu' (by rw [ups_set hl]; exact h')) hs)
    · rename_i hw; rw [if_neg hw] at hs
      exact ih _ _ _ hsz' hu' (by rw [ups_set hl]; exact hs)
/-- **A region that draws its order**: what holds at its beginning, what each operation makes of it, what it is when all have come up. -/
theorem region_inv {id : Nat} {a : Act} {w : World} (Φ : (Nat → Bool) → Act → World → Prop) (hm : P.follows .mixedOrders = true) (hb : backB ops = true)
    (start : Φ (fun _ => false) a w.drew)
    (step : ∀ (L : Nat → Bool) (a : Act) (w : World) (i : Nat) (o : Oper), ops[i]? = some o → L i = false → (∀ e ∈ o.after, Region.binds .any e = true → L e.on = true) → Φ L a w →
      if Region.wanted o (yielded ops a.tmps) = true then o.wp P a w (Φ (upd1 L i)) Q else Φ (upd1 L i) (a.put o.dst undef) w)
    (done : ∀ (L : Nat → Bool) (a : Act) (w : World), (∀ i, i < ops.size → L i = true) → Φ L a w → Q .normal a w) :
    (Code.region id ops true).wp P Q a w := by
  refine wp_region_any hm (wpAny_inv Φ hb step done ops.size _ a _ (by simp) ?_ ?_)
  · unfold unl; rw [Array.toList_replicate]; exact Nat.le_trans List.countP_le_length (by simp)
  · have : Ups (Array.replicate ops.size false) = fun _ => false := by
      funext i; simp [Ups, Array.getD]
    rw [this]; exact start
end
theorem wanted_step {o : Oper} {y : Nat → Option Bool} {A B : Prop} (h : o.guard = none) (h2 : A) : if Region.wanted o y = true then A else B := by
  have : Region.wanted o y = true := by simp [Region.wanted, h]
  rw [if_pos this]; exact h2
theorem wp_named {P : Program} {o : Oper} {a : Act} {w : World} {K : Act → World → Prop} {Q : Exit → Act → World → Prop} (h : ∀ K' : Act → World → Prop, Hid (∀ a w, K a w → K' a w) → o.wp P a w K' Q) : o.wp P a w K Q := h K (Lib.hid fun _ _ h => h)
end Go.Proofs.YtmeoafodcniliaaGreatDoor
