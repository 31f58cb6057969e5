/- A scope in which the run jumps to several labels: what holds at each jump, and a measure -/
import Derived.WalkKit
import Derived.WalkMore
import Derived.ScopeJumps
namespace Go.Proofs.YtmeoafodcniliaaGreatDoor.C4
/-- As Q; by a goto to a label of the list: what J says there. -/
def Jumps (ok : Nat → Bool) (J : Nat → Act → World → Prop) (Q : Exit → Act → World → Prop) : Exit → Act → World → Prop
  | .goto l', a, w => ok l' = true ∧ J l' a w
  | e, a, w => Q e a w
section
variable {P : Program} {a : Act} {w : World} {Q : Exit → Act → World → Prop}
theorem wp_scope_many {c : Code} (ok : Nat → Bool) (rest : Nat → Code) (J : Nat → Act → World → Prop) (μ : Nat → Act → World → Nat) (hf : ∀ l, ok l = true → findLabel c l = some (rest l))
    (first : c.wp P (Jumps ok J Q) a w)
    (pass : ∀ l a w, ok l = true → J l a w → (rest l).wp P (Jumps ok (fun l' a' w' => J l' a' w' ∧ μ l' a' w' < μ l a w) Q) a w) : (Code.scope c).wp P Q a w := by
  intro b k cs
  have key : ∀ n l a w, μ l a w = n → ok l = true → J l a w → ∃ e a' w', Q e a' w' ∧ Arrives P (lone (b.at a (.code (rest l) :: .inScope c :: k)) cs w) b k cs e a' w' := by
    intro n
    induction n using Nat.strongRecOn with
    | _ n ih =>
      intro l a w hn hl hJ
      obtain ⟨e, a₁, w₁, hq, harr⟩ := pass l a w hl hJ b (.inScope c :: k) cs
      cases e with
      | normal => exact ⟨.normal, a₁, w₁, hq, Steps.trans harr (.one step_inScope)⟩
      | exit id => exact ⟨.exit id, a₁, w₁, hq, fun k' hk => harr k' (by simp [exitTo, hk])⟩
      | goto l' =>
        obtain ⟨hl', hJ', hlt⟩ := hq
        have hg : gotoIn l' (.inScope c :: k) = some (.code (rest l') :: .inScope c :: k) := by simp [gotoIn, hf l' hl']
        obtain ⟨e₂, a₂, w₂, hq₂, harr₂⟩ := ih _ (by omega) l' a₁ w₁ rfl hl' hJ'
        exact ⟨e₂, a₂, w₂, hq₂, .of_steps (harr _ hg) harr₂⟩
      | ret => exact ⟨_, a₁, w₁, hq, harr⟩
      | panic ch => exact ⟨_, a₁, w₁, hq, harr⟩
      | outgrown => exact ⟨_, a₁, w₁, hq, harr⟩
  obtain ⟨e, a₁, w₁, hq, harr⟩ := first b (.inScope c :: k) cs
  cases e with
  | normal => exact ⟨.normal, a₁, w₁, hq, .head step_scope (Steps.trans harr (.one step_inScope))⟩
  | exit id => exact ⟨.exit id, a₁, w₁, hq, fun k' hk => .head step_scope (harr k' (by simp [exitTo, hk]))⟩
  | goto l' =>
    obtain ⟨hl', hJ'⟩ := hq
    have hg : gotoIn l' (.inScope c :: k) = some (.code (rest l') :: .inScope c :: k) := by simp [gotoIn, hf l' hl']
    obtain ⟨e₂, a₂, w₂, hq₂, harr₂⟩ := key _ l' a₁ w₁ rfl hl' hJ'
    exact ⟨e₂, a₂, w₂, hq₂, .of_steps (.head step_scope (harr _ hg)) harr₂⟩
  | ret => exact ⟨_, a₁, w₁, hq, .of_steps (.one step_scope) harr⟩
  | panic ch => exact ⟨_, a₁, w₁, hq, .of_steps (.one step_scope) harr⟩
  | outgrown => exact ⟨_, a₁, w₁, hq, .of_steps (.one step_scope) harr⟩
theorem wp_scope_two {c r0 r1 : Code} (J0 J1 : Act → World → Prop) (μ0 μ1 : Act → World → Nat) (h0 : findLabel c 0 = some (Code.seq .skip r0)) (h1 : findLabel c 1 = some (Code.seq .skip r1))
    (first : (∀ a w, J0 a w → r0.wp P (Jumps (fun l => l == 0 || l == 1) (fun l => if l = 0 then J0 else J1) Q) a w) → c.wp P (Jumps (fun l => l == 0 || l == 1) (fun l => if l = 0 then J0 else J1) Q) a w)
    (pass0 : ∀ a w, J0 a w → r0.wp P (Jumps (fun l => l == 0 || l == 1) (fun l a' w' => if l = 0 then J0 a' w' ∧ μ0 a' w' < μ0 a w else J1 a' w' ∧ μ1 a' w' < μ0 a w) Q) a w)
    (pass1 : ∀ a w, J1 a w → r1.wp P (Jumps (fun l => l == 0 || l == 1) (fun l a' w' => if l = 0 then J0 a' w' ∧ μ0 a' w' < μ1 a w else J1 a' w' ∧ μ1 a' w' < μ1 a w) Q) a w) : (Code.scope c).wp P Q a w := by
  refine wp_scope_many (fun l => l == 0 || l == 1) (fun l => if l = 0 then Code.seq .skip r0 else Code.seq .skip r1) (fun l => if l = 0 then J0 else J1) (fun l => if l = 0 then μ0 else μ1) ?_ (first fun a w hJ => wp_mono (pass0 a w hJ) ?_) ?_
  · intro l hl
    by_cases h : l = 0
    · subst h; rw [if_pos rfl, h0]
    · have : l = 1 := by simp at hl; omega
      subst this; rw [if_neg (by decide), h1]
  · intro e a' w' h
    cases e with
    | goto l =>
      refine ⟨h.1, ?_⟩
      have := h.2
      dsimp only at this ⊢
      by_cases hl : l = 0
      · rw [if_pos hl] at this ⊢; exact this.1
      · rw [if_neg hl] at this ⊢; exact this.1
    | normal => exact h
    | exit id => exact h
    | ret => exact h
    | panic ch => exact h
    | outgrown => exact h
  · intro l a w hl hJ
    have e : ∀ r, (fun (l' : Nat) (a' : Act) (w' : World) => (if l' = 0 then J0 else J1) a' w' ∧ (if l' = 0 then μ0 else μ1) a' w' < r) = (fun l' a' w' => if l' = 0 then J0 a' w' ∧ μ0 a' w' < r else J1 a' w' ∧ μ1 a' w' < r) := by
      intro r; funext l' a' w'; by_cases h : l' = 0 <;> simp [h]
    by_cases h : l = 0
    · subst h
      rw [if_pos rfl] at hJ ⊢
      rw [e]
      exact wp_seq (wp_skip (pass0 a w hJ))
    · have : l = 1 := by simp at hl; omega
      subst this
      rw [if_neg (by decide)] at hJ ⊢
      rw [e]
      exact wp_seq (wp_skip (pass1 a w hJ))
end
end Go.Proofs.YtmeoafodcniliaaGreatDoor.C4
