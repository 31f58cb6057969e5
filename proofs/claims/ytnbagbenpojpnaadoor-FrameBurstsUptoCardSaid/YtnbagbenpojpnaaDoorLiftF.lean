/- A slice of frames that came in, opened -/
import Derived.Test.YtnbagbenpojpnaaDoorLift
import Derived.Test.YtnbagbenpojpnaaDoorLawRows
import Derived.Deep.SlicePairs
namespace Go.Proofs.YtnbagbenpojpnaaDoor
open Go.ChangeShapes Go.WideShapes Go.ChangeAt Go.RowKit
set_option linter.unusedSimpArgs false
set_option linter.unusedVariables false
theorem open_frames {H : Type} {enc : TypeId × Value → H} {W : World} {A : Option Addr} {n cap : Nat} {d : DataW H} {p : List MemPlace} {base : Nat} {sp : Nat → Bool} {held : Bool}
    (h0 : DataW.Trod enc Tryd.prog W base sp held 42 (.slice A n cap) d p) : ∃ fs, InF W A n cap fs := by
  obtain ⟨fuel, hf⟩ := h0
  obtain ⟨f0, f1, hfs, o0, o1, c0, c1, e0, e1⟩ : ∃ f0 f1 : Field, Tryd.prog.underlying 24 = some (.struct #[f0, f1]) ∧ f0.offset = 0 ∧ f1.offset = 1 ∧ Tryd.prog.cellsOf f0.type = 1 ∧ Tryd.prog.cellsOf f1.type = 1 ∧ Tryd.prog.underlying f0.type = some (.int .i64) ∧ f1.type = 22 :=
    ⟨_, _, Tryd.underlying24, by kernel_rfl, by kernel_rfl, by kernel_rfl, by kernel_rfl, by kernel_rfl, by kernel_rfl⟩
  rcases Deep.open_slice_pairs descFrs hfs (by kernel_rfl) o0 o1 c0 c1 hf with ⟨hcs, _⟩ | ⟨x, l, c, m, fu, V0, V1, D0, D1, P0, P1, hcs, _, hl, hm, hmm, _, hcell⟩
  · simp [Value.cells] at hcs
    obtain ⟨rfl, rfl, rfl⟩ := hcs
    exact ⟨[], rfl, Nat.le_refl _, by unfold maxLen; omega, fun _ => ⟨rfl, rfl⟩, fun i k p h => by simp at h⟩
  · simp [Value.cells] at hcs
    obtain ⟨rfl, rfl, rfl⟩ := hcs
    have hnm : n ≤ m := by rw [hmm]; split <;> omega
    have each : ∀ i, i < n → ∃ q : Int × List (BitVec 8), V0 i = .int .i64 q.1 ∧ ∃ A' cap', V1 i = .slice A' q.2.length cap' ∧ In8 W A' q.2.length cap' q.2 := by
      intro i hi
      obtain ⟨_, _, t0, t1⟩ := hcell i (by omega)
      obtain ⟨k, hk, _, _⟩ := DataW.trod_int e0 t0
      rw [e1] at t1
      have hs : ∃ A n cap, V1 i = .slice A n cap := by
        rcases open_ints (t := 22) descU8s descU8 (by kernel_rfl) t1 with ⟨hcs, _⟩ | ⟨x, l, c, zs, hcs, _⟩
        · exact ⟨none, 0, 0, by simpa using hcs⟩
        · exact ⟨some x, l, c, by simpa using hcs⟩
      obtain ⟨A', n', cap', hv⟩ := hs
      rw [hv] at t1
      obtain ⟨bs, hb⟩ := open_u8s (A := A') (n := n') (cap := cap') (d := D1 i) (p := P1 i) (enc := enc) (W := W) (base := base) (sp := sp) (held := held) ⟨fu, t1⟩
      obtain rfl := hb.1
      exact ⟨(k, bs), by simpa using hk, A', cap', hv, hb⟩
    obtain ⟨q, hq⟩ := Deep.choose_lt each
    refine ⟨(List.range n).map q, by simp, hl, hm, (by intro h; cases h), ?_⟩
    intro i k p hi
    have hin : i < n := by have := (List.getElem?_eq_some_iff.1 hi).1; simpa using this
    have hqi : q i = (k, p) := by simpa [hin] using hi
    obtain ⟨g0, A', cap', g1, gb⟩ := hq i hin
    obtain ⟨q0, q1, _, _⟩ := hcell i (by omega)
    rw [hqi] at g0 g1 gb
    obtain ⟨b, off, spot⟩ := x
    have hspot : spot = none := by
      have h1 := (hcell 0 (by omega)).1
      simpa [Addr.add] using World.cell?_spot h1
    subst hspot
    rw [Addr.add_lit] at q0 q1
    refine ⟨b, off, A', cap', rfl, block_lt_of_cell q0, q0.trans (by rw [g0]), ?_, gb.2.2.2.1, gb.2.1, gb.2.2.1, gb.2.2.2.2⟩
    rw [← Nat.add_assoc] at q1
    exact q1.trans (by rw [g1])
end Go.Proofs.YtnbagbenpojpnaaDoor
