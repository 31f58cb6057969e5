/- a region that draws its order, its last operation (which waits for all others) set behind -/
import Derived.Test.YtmeoafodcniliaaGreatDoorThen
import Derived.Deep.RegionHeld3
import Derived.Test.YtmeoafodcniliaaGreatDoorBkM
namespace Go.Proofs.YtmeoafodcniliaaGreatDoor
open Go.RowKit
set_option linter.unusedSimpArgs false
set_option linter.unusedVariables false
namespace Bk
section
variable {P : Program} {ops front : Array Oper} {o : Oper} {Q : Exit → Act → World → Prop}
/-- What is asked behind the front: the last operation. -/
def behind (P : Program) (o : Oper) (Q : Exit → Act → World → Prop) : Exit → Act → World → Prop
  | .normal, a, w => o.wp P a w (fun a w => Q .normal a w) Q
  | e, a, w => Q e a w
theorem wp_behind {K : Act → World → Prop} {o2 : Oper} {a : Act} {w : World} (h : o2.wp P a w K (behind P o Q)) : o2.wp P a w K Q := by
  unfold Oper.wp at *
  generalize (execOp a.eval o2).run P w = r at *
  cases r with
  | ok n w' =>
    cases n <;> simp only [Oper.upon] at h ⊢ <;> first | exact h | exact Calls.mono h (fun e w'' he => by cases e <;> exact he) | exact Rows.mono h (fun _ _ he => he)
  | halt x w' => cases x <;> simp only [Oper.upon] at h ⊢ <;> exact h
theorem wpAny_front {n : Nat} (hb : backB ops = true) (hg : guardB ops = true) (hn : front.size = n) (hns : ops.size = n + 1) (heq : ∀ j, j < n → front[j]? = ops[j]?) (hlast : ops[n]? = some o) (hgn : o.guard = none) (hcl : closB ops n = true) :
    ∀ (fuel : Nat) (listed0 listed : Array Bool) (a : Act) (w : World), listed0.size = n → listed.size = n + 1 → (∀ i, i < n → listed.getD i false = listed0.getD i false) → listed.getD n true = false →
      (∀ i o, i < n → listed0.getD i false = true → ops[i]? = some o → ∀ e ∈ o.after, Region.binds .any e = true → listed0.getD e.on false = true) →
      wpAny P .any front (behind P o Q) fuel listed0 a w → wpAny P .any ops Q (fuel + 1) listed a w := by
  have eqT : ∀ (l0 l1 : Array Bool), l0.size = n → l1.size = n + 1 → (∀ i, i < n → l1.getD i false = l0.getD i false) → ∀ i, i < n → l1.getD i true = l0.getD i true := by
    intro l0 l1 h0 h1 h i hi
    have := h i hi
    have hs : i < l1.size := by omega
    have hs0 : i < l0.size := by omega
    simpa [Array.getD, hs, hs0] using this
  have noready : ∀ (l0 : Array Bool), l0.size = n → Region.ready .any front l0 = [] → ∀ i, i < n → l0.getD i false = true := by
    intro l0 h0 hr i
    induction i using Nat.strongRecOn with
    | ind i ih =>
      intro hi
      cases hx : l0.getD i false with
      | true => rfl
      | false =>
        exfalso
        have hi0 : i < front.size := by omega
        have hs0 : i < l0.size := by omega
        have : i ∈ Region.ready .any front l0 := mem_ready.2 ⟨by simpa [Array.getD, hs0] using hx, front[i], Array.getElem?_eq_getElem hi0, fun e he hbd => by
          have := backB_spec hb i front[i] (by rw [← heq i hi]; exact Array.getElem?_eq_getElem hi0) e he
          exact ih _ this (by omega)⟩
        rw [hr] at this; cases this
  -- all others have come up: the last one
  have fin : ∀ (listed : Array Bool) (a : Act) (w : World), listed.size = n + 1 → (∀ i, i < n → listed.getD i false = true) → listed.getD n true = false → behind P o Q .normal a w → wpAny P .any ops Q 1 listed a w := by
    intro listed a w hs hall hun h
    have hready : n ∈ Region.ready .any ops listed := mem_ready.2 ⟨hun, o, hlast, fun e he _ => by
      have := backB_spec hb n o hlast e he
      exact hall _ this⟩
    refine ⟨fun hr => (by rw [hr] at hready; cases hready), fun i hi => ?_⟩
    obtain ⟨hu, oi, hoi, _⟩ := mem_ready.1 hi
    have hisz : i < ops.size := (Array.getElem?_eq_some_iff.1 hoi).1
    have hin : i = n := by
      rcases Nat.lt_or_ge i n with hlt | hge
      · have := listed_true (hall i hlt); rw [hu] at this; cases this
      · omega
    subst hin
    have hk' : wpOp P ops Q i (fun a w => Q .normal a w) a w := by
      unfold wpOp; simp only [hlast]
      rw [if_pos (by simp [Region.wanted, hgn])]
      exact .inl h
    refine wpOp_mono (fun a' w' h' => ⟨?_, h'⟩) hk'
    rw [List.eq_nil_iff_forall_not_mem]
    intro j hj
    obtain ⟨huj, oj, hoj, _⟩ := mem_ready.1 hj
    have hjsz : j < ops.size := (Array.getElem?_eq_some_iff.1 hoj).1
    by_cases hji : j = i
    · subst hji
      have hjl : j < listed.size := by omega
      simp [Array.getD, hjl] at huj
    · rw [getD_set_ne true (Ne.symm hji)] at huj
      have := listed_true (hall j (by omega))
      rw [huj] at this; cases this
  intro fuel
  induction fuel with
  | zero =>
    intro listed0 listed a w hs0 hs he hu hd h
    obtain ⟨hr, h⟩ := h
    exact fin listed a w hs (fun i hi => by rw [he i hi]; exact noready listed0 hs0 hr i hi) hu h
  | succ fuel ih =>
    intro listed0 listed a w hs0 hs he hu hd h
    by_cases hr : Region.ready .any front listed0 = []
    · have := fin listed a w hs (fun i hi => by rw [he i hi]; exact noready listed0 hs0 hr i hi) hu (h.1 hr)
      exact wpAny_fuel (fuel + 1) this
    · have up : ∀ i, i ∈ Region.ready .any front listed0 → i ∈ Region.ready .any ops listed := by
        intro i hi
        obtain ⟨hx, o2, ho, hall⟩ := mem_ready.1 hi
        have hin : i < n := by rw [← hn]; exact (Array.getElem?_eq_some_iff.1 ho).1
        have ho' : ops[i]? = some o2 := (heq i hin).symm.trans ho
        refine mem_ready.2 ⟨by rw [eqT listed0 listed hs0 hs he i hin]; exact hx, o2, ho', fun e hee hbd => ?_⟩
        have := backB_spec hb i o2 ho' e hee
        rw [he _ (by omega)]; exact hall e hee hbd
      refine ⟨fun h0 => ?_, fun i hi => ?_⟩
      · exfalso
        cases hr2 : Region.ready .any front listed0 with
        | nil => exact hr hr2
        | cons x t =>
          have := up x (by rw [hr2]; exact List.mem_cons_self)
          rw [h0] at this; cases this
      · obtain ⟨hx, o2, ho, hall⟩ := mem_ready.1 hi
        have hisz : i < ops.size := (Array.getElem?_eq_some_iff.1 ho).1
        have hin : i < n := by
          rcases Nat.lt_or_ge i n with hlt | hge
          · exact hlt
          · exfalso
            obtain rfl : i = n := by omega
            rw [hlast] at ho; injection ho with ho; subst ho
            have allT : ∀ d j, j + d = i → 0 < d → listed0.getD j false = true := by
              intro d
              induction d using Nat.strongRecOn with
              | ind d ih2 =>
                intro j hj hd0
                obtain ⟨i', o', e, h1, h2, ho', hee, hbd, hon⟩ := closB_spec hcl j (by omega)
                rcases Nat.lt_or_ge i' i with hlt2 | hge3
                · have := ih2 (i - i') (by omega) i' (by omega) (by omega)
                  have := hd i' o' hlt2 this ho' e hee hbd
                  rwa [hon] at this
                · obtain rfl : i' = i := by omega
                  rw [hlast] at ho'; injection ho' with ho'; subst ho'
                  have := hall e hee hbd
                  rw [hon, he j (by omega)] at this
                  exact this
            apply hr
            rw [List.eq_nil_iff_forall_not_mem]
            intro j hj
            obtain ⟨hxj, oj, hoj, _⟩ := mem_ready.1 hj
            have hjn : j < i := by rw [← hn]; exact (Array.getElem?_eq_some_iff.1 hoj).1
            have := listed_true (allT (i - j) j (by omega) (by omega))
            rw [hxj] at this; cases this
        have hif : i ∈ Region.ready .any front listed0 := mem_ready.2 ⟨by rw [← eqT listed0 listed hs0 hs he i hin]; exact hx, o2, (heq i hin).trans ho, fun e hee hbd => by
          have := backB_spec hb i o2 ho e hee
          rw [← he _ (by omega)]; exact hall e hee hbd⟩
        have hop := h.2 i hif
        have hset : ∀ a' w', wpAny P .any front (behind P o Q) fuel (listed0.setIfInBounds i true) a' w' → wpAny P .any ops Q (fuel + 1) (listed.setIfInBounds i true) a' w' := fun a' w' h' => by
          refine ih _ _ a' w' (by rw [Array.size_setIfInBounds]; exact hs0) (by rw [Array.size_setIfInBounds]; exact hs) (fun j hj => ?_) ?_ ?_ h'
          · by_cases hji : j = i
            · subst hji; simp [Array.getD, hs, hs0, hj]; omega
            · have e1 : (listed.setIfInBounds i true).getD j false = listed.getD j false := getD_set_ne false (Ne.symm hji)
              have e2 : (listed0.setIfInBounds i true).getD j false = listed0.getD j false := getD_set_ne false (Ne.symm hji)
              rw [e1, e2]; exact he j hj
          · have e1 : (listed.setIfInBounds i true).getD n true = listed.getD n true := getD_set_ne true (by omega)
            rw [e1]; exact hu
          · intro j oj hj hlj hoj e hee hbd
            by_cases hji : i = j
            · subst hji
              rw [ho] at hoj; injection hoj with hoj; subst hoj
              have := backB_spec hb i o2 ho e hee
              exact getD_set_true (by rw [← he _ (by omega)]; exact hall e hee hbd)
            · rw [getD_set_ne false hji] at hlj
              exact getD_set_true (hd j oj hj hlj hoj e hee hbd)
        unfold wpOp at hop ⊢
        rw [(heq i hin).trans ho] at hop
        simp only [ho] at hop ⊢
        rw [wanted_head hg heq hin ho] at hop
        split
        · rename_i hw
          rw [if_pos hw] at hop
          rcases hop with hop | ⟨ha, hlo⟩
          · exact .inl (Oper.wp_mono hset (wp_behind hop))
          · exact .inr ⟨ha, hlo⟩
        · rename_i hw
          rw [if_neg hw] at hop
          exact hset _ _ hop
/-- **A region whose last operation waits for all others**: S is asked of the operations ahead of it alone. -/
theorem region_front {id : Nat} {a : Act} {w : World} {S : World → Prop} (front : Array Oper) (o : Oper) (hops : ops = front.push o) (hm : P.follows .mixedOrders = true) (hb : backB ops = true) (hg : guardB ops = true) (hgn : o.guard = none) (hcl : closB ops front.size = true) (hS : S w.drew)
    (h : S w.drew → wpAnyH P .any front (behind P o Q) S front.size (Array.replicate front.size false) a w.drew) : (Code.region id ops true).wp P Q a w := by
  subst hops
  have := wpAny_front (P := P) (Q := Q) (n := front.size) hb hg rfl (by simp) (fun j hj => by rw [Array.getElem?_push, if_neg (by omega)]) (by simp) hgn hcl front.size (Array.replicate front.size false) (Array.replicate (front.push o).size false) a w.drew (by simp) (by simp)
    (fun i hi => by simp [Array.getD, hi]) (by simp [Array.getD]) (fun i o hi hl => by simp [Array.getD] at hl) (wpAny_of_held _ _ _ _ (h hS))
  refine wp_region_any hm ?_
  rw [show (front.push o).size = front.size + 1 by simp] at this ⊢
  exact this
theorem region_front2 {id : Nat} {a : Act} {w : World} {S : World → Prop} {l : List Oper} {n : Nat} {o : Oper} (ho : l[n]? = some o) (hn : l.length = n + 1) (hm : P.follows .mixedOrders = true) (hb : backB l.toArray = true) (hg : guardB l.toArray = true) (hgn : o.guard = none) (hcl : closB l.toArray n = true) (hS : S w.drew)
    (h : S w.drew → wpAnyH P .any (l.take n).toArray (behind P o (NoPanic Q)) S n (Array.replicate n false) a w.drew) : (Code.region id l.toArray true).wp P Q a w := by
  refine wp_region_noPanic ?_
  have hs : ((l.take n).toArray).size = n := by simp; omega
  have hops : l.toArray = ((l.take n).toArray).push o := by
    have : l = l.take n ++ [o] := by
      have h1 := List.take_append_drop n l
      have h2 : l.drop n = [o] := by
        rw [List.drop_eq_getElem_cons (by omega)]
        have h3 : l[n]'(by omega) = o := by
          have := List.getElem?_eq_getElem (l := l) (i := n) (by omega)
          rw [this] at ho; injection ho
        rw [h3, List.drop_of_length_le (by omega)]
      rw [h2] at h1; exact h1.symm
    rw [List.push_toArray, ← this]
  exact region_front (l.take n).toArray o hops hm hb hg hgn (by rw [hs]; exact hcl) hS (by rw [hs]; exact h)
theorem takeD {S : World → Prop} {i : Nat} (d : Option Tmp) {oi : Oper} {v : Value} {fuel : Nat} {listed : Array Bool} {a : Act} {w : World} (hi : ops[i]? = some oi) (hd : oi.dst = d)
    (hs : Region.noSelect ops = true) (hf : Region.free .any ops listed i = true) (hr : (Region.ready .any ops listed).contains i = true)
    (hQ : ∀ c a w, Q (.panic c) (a.put d v) w → Q (.panic c) a w) (hy : YieldsIf P ops S oi v a) (hS : S w)
    (h : wpAnyH P .any ops Q S fuel (listed.setIfInBounds i true) (a.put d v) w) : wpAnyH P .any ops Q S (fuel + 1) listed a w := by
  subst hd
  exact wpAnyH_take hi hs hf hr hQ hy hS h
section
variable {S : World → Prop} {i : Nat} {fuel : Nat} {listed : Array Bool} {a : Act} {w : World}
theorem wanted_none {o : Oper} {y : Nat → Option Bool} (h : o.guard = none) : Region.wanted o y = true := by simp [Region.wanted, h]
/-- One operation alone may come up, and yields a value. -/
theorem valD (d : Option Tmp) {o : Oper} (hr : Region.ready .any ops listed = [i]) (ho : ops[i]? = some o) (hd : o.dst = d) (hgd : o.guard = none) {v : Value} {w' : World} (hrun : (execOp a.eval o).run P w = .ok (.value v) w') (hS : S w')
    (h : S w' → wpAnyH P .any ops Q S fuel (listed.setIfInBounds i true) (a.put d v) w') : wpAnyH P .any ops Q S (fuel + 1) listed a w := by
  subst hd
  refine wpAnyH_all hr (by simp) (fun j hj => ?_)
  simp at hj; subst hj
  unfold wpOp
  rw [ho]
  simp only
  rw [if_pos (wanted_none hgd)]
  refine .inl ?_
  unfold Oper.wp
  rw [hrun]
  exact ⟨hS, h hS⟩
/-- One operation alone may come up: a call of a function whose contract is known. -/
theorem calD (d : Option Tmp) {o : Oper} (hr : Region.ready .any ops listed = [i]) (ho : ops[i]? = some o) (hd : o.dst = d) (hgd : o.guard = none) {f : FuncId} {args : Array Value} (hrun : (execOp a.eval o).run P w = .ok (.enter f args) w) {R : Ending → World → Prop} (hc : Calls P f args w R)
    (h : ∀ e w', R e w' → ∃ v, e = .returned v ∧ S w' ∧ (S w' → wpAnyH P .any ops Q S fuel (listed.setIfInBounds i true) (a.put d v) w')) : wpAnyH P .any ops Q S (fuel + 1) listed a w := by
  subst hd
  refine wpAnyH_all hr (by simp) (fun j hj => ?_)
  simp at hj; subst hj
  unfold wpOp
  rw [ho]
  simp only
  rw [if_pos (wanted_none hgd)]
  refine .inl ?_
  unfold Oper.wp
  rw [hrun]
  refine Calls.mono hc fun e w' he => ?_
  obtain ⟨v, rfl, h1, h2⟩ := h e w' he
  exact ⟨h1, h2 h1⟩
/-- One operation alone may come up: an append to an owned row. -/
theorem appD (d : Option Tmp) {o : Oper} (hr : Region.ready .any ops listed = [i]) (ho : ops[i]? = some o) (hd : o.dst = d) (hgd : o.guard = none) (s x : Operand) (t : TypeId)
    (hop : o.op = .call { callee := .builtin .append, args := #[s, x], argTypes := #[t, t] })
    (e : TypeId) (it : TypeInfo) (z : Value) (size bytes : Nat) (ht : P.underlying t = some (.slice e)) (hi : P.info? e = some it) (hz : it.zero = some z)
    (hsize : it.size = size) (hby : it.bytes = bytes) (hzs : z.cells.size = size) (hsz : 0 < size)
    (v : Value) (n : Nat) (xs : List Value) (hs : a.eval s = v) (hown : w.ownsRow 0 e size v n xs)
    (ad : Addr) (m c B : Nat) (news : List Value) (hx : a.eval x = .slice (some ad) m c) (hm : 0 < m) (hl : news.length = m * size) (hr2 : Rd w B (some ad) news) (h1 : ∀ u ∈ news, u.oneCell' = true)
    (h63 : n + m ≤ maxLen) (hbytes : (n + m) * bytes ≤ 140737488355328)
    (h : ∀ v' w', Hid (w'.ownsRow 0 e size v' (n + m) (xs ++ news)) → Hid (w'.ownsRow 0 e size v n xs) → Hid (Kept (fun k => v.ownBlock = some k) w w') → Hid (∀ g, v'.ownBlock = some g → v.ownBlock = some g ∨ w.heap.size ≤ g) → S w' ∧ (S w' → wpAnyH P .any ops Q S fuel (listed.setIfInBounds i true) (a.put d v') w')) :
    wpAnyH P .any ops Q S (fuel + 1) listed a w := by
  obtain ⟨v', w', hrun, h2, h3, h4, h5⟩ := run_append_two (P := P) w 0 t o.type e it z size bytes ht hi hz hsize hby hzs hsz v n xs hown ad m c news hm hl (rd_news hr2 _ rfl) h1 h63 hbytes (Nat.zero_le _)
  obtain ⟨k1, k2⟩ := h v' w' h2 h3 (Kept.grown h4) h5
  refine valD d hr ho hd hgd (v := v') (w' := w') ?_ k1 k2
  unfold execOp
  simp only [hop, resolve, invoke, builtin, Sem.run_bind, Sem.run_pure, Result.andThen_ok, List.map_toArray, List.map_cons, List.map_nil, hs, hx, hrun]
end
end
end Bk
end Go.Proofs.YtmeoafodcniliaaGreatDoor
