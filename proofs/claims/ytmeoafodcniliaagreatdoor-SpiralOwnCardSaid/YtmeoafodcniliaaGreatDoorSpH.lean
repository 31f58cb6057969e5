/- what writes into one block (as in chapter 10) -/
import Derived.Test.YtmeoafodcniliaaGreatDoorInts
namespace Go.Proofs.YtmeoafodcniliaaGreatDoor.C24
open Go.RowKit
set_option linter.unusedSimpArgs false
set_option linter.unusedVariables false
/-- One block alone may have changed; memory may have grown. -/
abbrev Upd (g : Nat) (w w' : World) : Prop := w.grownBy w' (some g)
theorem Upd.refl (g : Nat) (w : World) : Upd g w w := ⟨rfl, rfl, rfl, Nat.le_refl _, fun _ _ _ => rfl⟩
theorem Upd.trans {g : Nat} {a b c : World} (h : Upd g a b) (k : Upd g b c) : Upd g a c :=
  ⟨k.os.trans h.os, k.tape.trans h.tape, k.output.trans h.output, Nat.le_trans h.size k.size, fun i hi hne => (k.block i (Nat.lt_of_lt_of_le hi h.size) hne).trans (h.block i hi hne)⟩
theorem Upd.below {g B : Nat} {w w' : World} (h : Upd g w w') (hB : B ≤ g) (hs : B ≤ w.heap.size) : Below B w w' :=
  (Below.refl B w).grown h hs fun k e => by injection e with e; omega
theorem Upd.setCell {g : Nat} (w : World) (o : Nat) (v : Value) : Upd g w (w.setCell ⟨g, o, none⟩ v) := by
  refine ⟨rfl, rfl, rfl, by simp [World.setCell], fun k hk hne => ?_⟩
  have hne' : g ≠ k := fun h => hne (by rw [h])
  simp [World.setCell, Array.getElem?_modify, hne']
theorem own_low {w w' : World} {base gx n cap : Nat} {t : TypeId} {A : Option Addr} {xs : List Value} (ho : w.ownsRow base t 1 (.slice A n cap) n xs) (hlt : gx < base) (hu : Upd gx w w') : w'.ownsRow base t 1 (.slice A n cap) n xs := by
  refine ho.kept hu ?_
  rcases ho.2 with ⟨h, _⟩ | ⟨i, _, _, h, hb, _⟩
  · injection h with h; subst h; exact Or.inl rfl
  · injection h with h; subst h; right; simp [Value.ownBlock]; omega
theorem own_some1 {w : World} {base : Nat} {t : TypeId} {A : Option Addr} {n cap : Nat} {xs : List Value} (h : w.ownsRow base t 1 (.slice A n cap) n xs) (hn : 1 ≤ n) : ∃ g, A = some ⟨g, 0, none⟩ := by
  rcases h.2 with ⟨_, h⟩ | ⟨g, _, _, h, _⟩
  · omega
  · injection h with h; exact ⟨g, h⟩
end Go.Proofs.YtmeoafodcniliaaGreatDoor.C24
