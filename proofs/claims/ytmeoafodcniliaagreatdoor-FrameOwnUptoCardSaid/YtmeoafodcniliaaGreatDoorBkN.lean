/- what a keeping leaves: rows of what is kept are as they were -/
import Derived.Test.YtmeoafodcniliaaGreatDoorBk0
import Derived.Test.YtmeoafodcniliaaGreatDoorBkL
namespace Go.Proofs.YtmeoafodcniliaaGreatDoor
open Go.RowKit
set_option linter.unusedSimpArgs false
set_option linter.unusedVariables false
namespace Bk
/-- A block that holds nothing of what is kept. -/
def NC (w : World) (g : Nat) : Prop := ∃ cs t fr, w.heap[g]? = some (.cells cs t fr) ∧ cont t = false
theorem own_nc {w w' : World} {base s n : Nat} {t : TypeId} {v : Value} {xs : List Value} (h : w.ownsRow base t s v n xs) (ht : cont t = true) (hk : Kept (NC w) w w') : w'.ownsRow base t s v n xs :=
  own_kept h hk (fun g hg hN => by
    obtain ⟨cs, t', fr, h1, h2⟩ := hN
    exact own_not_cells h h1 (fun e => by rw [e, h2] at ht; cases ht) hg)
theorem Kept.nc {a b c : World} (h : Kept (NC a) a b) (k : Kept (NC b) b c) : Kept (NC a) a c :=
  h.trans k (fun x hx => by
    rcases Nat.lt_or_ge x a.heap.size with h1 | h1
    · left
      refine Classical.byContradiction fun hn => hn ?_
      obtain ⟨cs, t, fr, h2, h3⟩ := hx
      rw [h.block x h1 hn] at h2
      exact ⟨cs, t, fr, h2, h3⟩
    · exact .inr h1)
theorem Kept.nc_below {a b : World} (h : Below a.heap.size a b) : Kept (NC a) a b := Kept.of_below h
/-- What a raw keeping leaves. -/
theorem raw_nc {used : Nat → Bool} {w w' : World} {kb N K : Nat} {U : Nat → Prop} {vs ws : Nat → List Value} {hv hw : Nat → Value} (h : BkP used w kb U N vs ws hv hw) (hK : K < 17) {l : Value} {e : Ending} {D : Nat → Prop} (hr : KeepRaw D w kb K (vs K) (ws K) (hv K) (hw K) l e w') : Kept (NC w) w w' := by
  obtain ⟨_, u, hv', hw', _, _, r3, _⟩ := hr
  refine r3.mono (fun g _ hx => ?_)
  rcases hx with h1 | h1 | h1
  · obtain ⟨cs, c1, _⟩ := h.bk
    subst h1
    exact ⟨cs, _, _, c1, by decide⟩
  · rcases (h.k K hK).hvs.2.2 with ⟨e1, _⟩ | ⟨k, cap, cur, e1, _, e2, _⟩
    · rw [e1] at h1; cases h1
    · rw [e1] at h1; injection h1 with h1; subst h1; exact ⟨cur, _, _, e2, cont_sT K⟩
  · rcases (h.k K hK).hws.2.2 with ⟨e1, _⟩ | ⟨k, cap, cur, e1, _, e2, _⟩
    · rw [e1] at h1; cases h1
    · rw [e1] at h1; injection h1 with h1; subst h1; exact ⟨cur, _, _, e2, cont_sT K⟩
/-- A row of bytes is kept; all else of what is kept is as it was. -/
theorem keepNc0 {used : Nat → Bool} {kb N : Nat} {U : Nat → Prop} (hu : used 0 = true) (base : Nat) (A : Option Addr) (n cap : Nat) (xs : List (BitVec 8)) (w : World) (h : Is used w kb U N) (hN : N ≤ 1000000) (hxl : xs.length = n) (hnm : n ≤ 1099511627776)
    (hl : w.ownsRow base (eT 0) (sz 0) (.slice A n cap) n (xs.map V8)) (hfree : ∀ g, (Value.slice A n cap).ownBlock = some g → ¬ U g) :
    Calls Tryz.prog 19 #[.pointer (some ⟨kb, 0, none⟩), .slice A n cap] w fun e w' => e = .returned (.tuple #[]) ∧ Is used w' kb (more U w w' (.slice A n cap)) (N + 1) ∧ Kept U w w' ∧ Kept (NC w) w w' := by
  obtain ⟨vs, ws, hv, hw, h⟩ := h
  have h17 : 0 < 17 := by decide
  have hl0 := own_zero hl
  refine (keep0_calls kb (vs 0) (ws 0) (hv 0) (hw 0) A n cap xs w h.bk (h.k 0 h17) (by have := h.few 0 h17; omega) (h.len 0 h17) hxl hnm hl0).mono ?_
  intro e w' hr
  have hp := h.push h17 hu (by decide) hl0 hfree (D := fun _ => False) (fun _ h => h.elim) hr
  exact ⟨hp.1, hp.2.1, hp.2.2, raw_nc h h17 hr⟩
end Bk
end Go.Proofs.YtmeoafodcniliaaGreatDoor
