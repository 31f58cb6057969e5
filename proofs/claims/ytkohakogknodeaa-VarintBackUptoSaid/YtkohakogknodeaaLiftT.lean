/- A slice of Items that came in, opened -/
import Derived.Test.YtkohakogknodeaaLift
import Derived.Test.YtkohakogknodeaaLawBack
import Derived.Deep.SlicePairs
namespace Go.Proofs.Ytkohakogknodeaa
open Go.ChangeShapes Go.WideShapes Go.ChangeAt Go.RowKit
set_option linter.unusedSimpArgs false
set_option linter.unusedVariables false
theorem descIts : Try.prog.underlying 45 = some (.slice 47) := by kernel_rfl
theorem open_its {H : Type} {enc : TypeId × Value → H} {W : World} {A : Option Addr} {n cap : Nat} {d : DataW H} {p : List MemPlace} {base : Nat} {sp : Nat → Bool} {held : Bool}
    (h0 : DataW.Trod enc Try.prog W base sp held 45 (.slice A n cap) d p) : ∃ qs, InT W A n cap qs := by
  obtain ⟨fuel, hf⟩ := h0
  obtain ⟨f0, f1, f2, f3, hfs, o0, o1, o2, o3, c0, c1, c2, c3, e0, e1, e2, e3⟩ : ∃ f0 f1 f2 f3 : Field, Try.prog.underlying 47 = some (.struct #[f0, f1, f2, f3]) ∧ f0.offset = 0 ∧ f1.offset = 1 ∧ f2.offset = 2 ∧ f3.offset = 3 ∧
      Try.prog.cellsOf f0.type = 1 ∧ Try.prog.cellsOf f1.type = 1 ∧ Try.prog.cellsOf f2.type = 1 ∧ Try.prog.cellsOf f3.type = 1 ∧
      Try.prog.underlying f0.type = some (.int .i64) ∧ Try.prog.underlying f1.type = some (.int .i64) ∧ Try.prog.underlying f2.type = some .bool ∧ f3.type = 29 :=
    ⟨_, _, _, _, Try.underlying47, by kernel_rfl, by kernel_rfl, by kernel_rfl, by kernel_rfl, by kernel_rfl, by kernel_rfl, by kernel_rfl, by kernel_rfl, by kernel_rfl, by kernel_rfl, by kernel_rfl, by kernel_rfl⟩
  have ce : Try.prog.cellsOf 47 = 4 := by kernel_rfl
  rcases Deep.open_slice descIts hf with ⟨hcs, _⟩ | ⟨a, l, c, m, fu, D, Pl, hcs, _, hl, hm, hmm, _, hx⟩
  · simp [Value.cells] at hcs
    obtain ⟨rfl, rfl, rfl⟩ := hcs
    exact ⟨[], rfl, Nat.le_refl _, by unfold maxLen; omega, fun _ => ⟨rfl, rfl⟩, fun i q h => by simp at h⟩
  · simp [Value.cells] at hcs
    obtain ⟨rfl, rfl, rfl⟩ := hcs
    have hnm : n ≤ m := by rw [hmm]; split <;> omega
    have each : ∀ i, i < n → ∃ q : Vi.ItA, W.cell? (a.add (i * 4)) = some (.int .i64 q.1) ∧ W.cell? (a.add (i * 4 + 1)) = some (.int .i64 q.2.1) ∧ W.cell? (a.add (i * 4 + 2)) = some (.bool q.2.2.1) ∧
        ∃ A' n' cap', W.cell? (a.add (i * 4 + 3)) = some (.slice A' n' cap') ∧ n' = q.2.2.2.length ∧ Rd W W.heap.size A' (q.2.2.2.map VI) ∧ q.1 < 9223372036854775808 := by
      intro i hi
      obtain ⟨cs', h1, h2⟩ := hx i (by omega)
      rw [ce] at h1
      obtain ⟨_, hlen, hcell⟩ := World.cells?_some h1
      obtain ⟨xs, k, hk, hxy, _, hxl, hf⟩ := DataW.trod_struct hfs h2
      match xs, hxl, cs', hlen with
      | [y0, y1, y2, y3], _, [v0, v1, v2, v3], _ =>
        have g0 := hf 0 f0 rfl
        have g1 := hf 1 f1 rfl
        have g2 := hf 2 f2 rfl
        have g3 := hf 3 f3 rfl
        simp [o0, o1, o2, o3, c0, c1, c2, c3] at g0 g1 g2 g3
        have q0 := hcell 0 (by omega)
        have q1 := hcell 1 (by omega)
        have q2 := hcell 2 (by omega)
        have q3 := hcell 3 (by omega)
        rw [Deep.add_add] at q0 q1 q2 q3
        obtain ⟨X, hX, _, hXw⟩ := DataW.trod_int (k := .i64) e0 g0
        obtain ⟨F, hF, _, _⟩ := DataW.trod_int (k := .i64) e1 g1
        obtain ⟨M, hM, _⟩ := DataW.trod_bool e2 g2
        obtain rfl : v0 = .int .i64 X := by simpa using hX
        obtain rfl : v1 = .int .i64 F := by simpa using hF
        obtain rfl : v2 = .bool M := by simpa using hM
        rw [e3] at g3
        have hs : ∃ A n cap, v3 = .slice A n cap := by
          rcases open_ints (t := 29) descInts descInt (by kernel_rfl) g3 with ⟨hcs, _⟩ | ⟨x, l, c, zs, hcs, _⟩
          · exact ⟨none, 0, 0, by simpa using hcs⟩
          · exact ⟨some x, l, c, by simpa using hcs⟩
        obtain ⟨A', n', cap', rfl⟩ := hs
        have b0 := bounds_i64 hXw
        obtain ⟨zs, hb⟩ := open_i64s (A := A') (n := n') (cap := cap') (d := y3.1) (p := y3.2) (enc := enc) (W := W) (base := base) (sp := sp) (held := held) ⟨_, g3⟩
        exact ⟨(X, F, M, zs), by simpa using q0, by simpa using q1, by simpa using q2, A', n', cap', by simpa using q3, hb.1, hb.2.2.2.2.1, by have := b0.2; simp only; omega⟩
    obtain ⟨q, hq⟩ := Deep.choose_lt each
    refine ⟨(List.range n).map q, by simp, hl, hm, (by intro h; cases h), ?_⟩
    intro i p hi
    have hin : i < n := by have := (List.getElem?_eq_some_iff.1 hi).1; simpa using this
    have hqi : q i = p := by simpa [hin] using hi
    obtain ⟨g0, g1, g2, A', n', cap', g3, gn, gr, gb⟩ := hq i hin
    rw [hqi] at g0 g1 g2 gn gr gb
    obtain ⟨b, off, spot⟩ := a
    have hspot : spot = none := by
      have h1 := (hq 0 (by omega)).1
      simpa [Addr.add] using World.cell?_spot h1
    subst hspot
    rw [Addr.add_lit] at g0 g1 g2 g3
    refine ⟨b, off, A', n', cap', rfl, block_lt_of_cell g0, g0, ?_, ?_, ?_, gn, gr, gb⟩
    · rw [Nat.add_assoc]; exact g1
    · rw [Nat.add_assoc]; exact g2
    · rw [Nat.add_assoc]; exact g3
end Go.Proofs.Ytkohakogknodeaa
