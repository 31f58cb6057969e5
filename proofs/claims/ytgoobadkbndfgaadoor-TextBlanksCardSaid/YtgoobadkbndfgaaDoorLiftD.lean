/- a slice of dresses that came in; TextBlanks' row -/
import Derived.Test.YtgoobadkbndfgaaDoorLawBl
namespace Go.Proofs.YtgoobadkbndfgaaDoor
open Go.ChangeShapes Go.WideShapes Go.ChangeAt Go.RowKit
set_option linter.unusedSimpArgs false
set_option linter.unusedVariables false
def InD (W : World) (A : Option Addr) (n cap : Nat) (ds : List Dz) : Prop :=
  n = ds.length ∧ n ≤ cap ∧ cap ≤ maxLen ∧ DrsIn W W.heap.size A ds ∧ ∀ d ∈ ds, ints d
instance : Inhabited Dz := ⟨⟨0, 0, 0, 0, false, []⟩⟩
theorem descDrs : Tryd.prog.underlying 60 = some (.slice 64) := by kernel_rfl
theorem ss_of (s : ByteArray) : SS (s.data.toList.map UInt8.toBitVec) = .string s := by
  unfold SS strOf
  congr 1
  apply ByteArray.ext
  simp [Function.comp_def]
set_option maxRecDepth 20000 in
theorem open_drs {H : Type} {enc : TypeId × Value → H} {W : World} {A : Option Addr} {n cap : Nat} {d : DataW H} {p : List MemPlace} {base : Nat} {sp : Nat → Bool} {held : Bool}
    (h0 : DataW.Trod enc Tryd.prog W base sp held 60 (.slice A n cap) d p) : ∃ qs, InD W A n cap qs := by
  obtain ⟨fuel, hf⟩ := h0
  obtain ⟨f0, f1, f2, f3, f4, f5, hfs, o0, o1, o2, o3, o4, o5, c0, c1, c2, c3, c4, c5, e0, e1, e2, e3, e4, e5⟩ : ∃ f0 f1 f2 f3 f4 f5 : Field, Tryd.prog.underlying 64 = some (.struct #[f0, f1, f2, f3, f4, f5]) ∧ f0.offset = 0 ∧ f1.offset = 1 ∧ f2.offset = 2 ∧ f3.offset = 3 ∧ f4.offset = 4 ∧ f5.offset = 5 ∧
      Tryd.prog.cellsOf f0.type = 1 ∧ Tryd.prog.cellsOf f1.type = 1 ∧ Tryd.prog.cellsOf f2.type = 1 ∧ Tryd.prog.cellsOf f3.type = 1 ∧ Tryd.prog.cellsOf f4.type = 1 ∧ Tryd.prog.cellsOf f5.type = 1 ∧
      Tryd.prog.underlying f0.type = some (.int .i64) ∧ Tryd.prog.underlying f1.type = some (.int .i64) ∧ Tryd.prog.underlying f2.type = some (.int .i64) ∧ Tryd.prog.underlying f3.type = some (.int .i64) ∧ Tryd.prog.underlying f4.type = some .bool ∧ Tryd.prog.underlying f5.type = some .string :=
    ⟨_, _, _, _, _, _, Tryd.underlying64, by kernel_rfl, by kernel_rfl, by kernel_rfl, by kernel_rfl, by kernel_rfl, by kernel_rfl, by kernel_rfl, by kernel_rfl, by kernel_rfl, by kernel_rfl, by kernel_rfl, by kernel_rfl, by kernel_rfl, by kernel_rfl, by kernel_rfl, by kernel_rfl, by kernel_rfl, by kernel_rfl⟩
  have ce : Tryd.prog.cellsOf 64 = 6 := by kernel_rfl
  rcases Deep.open_slice descDrs hf with ⟨hcs, _⟩ | ⟨a, l, c, m, fu, D, Pl, hcs, _, hl, hm, hmm, _, hx⟩
  · simp [Value.cells] at hcs
    obtain ⟨rfl, rfl, rfl⟩ := hcs
    exact ⟨[], rfl, Nat.le_refl _, by unfold maxLen; omega, fun i d h => by simp at h, by simp⟩
  · simp [Value.cells] at hcs
    obtain ⟨rfl, rfl, rfl⟩ := hcs
    have hnm : n ≤ m := by rw [hmm]; split <;> omega
    have each : ∀ i, i < n → ∃ q : Dz, W.cell? (a.add (i * 6)) = some (.int .i64 q.e) ∧ W.cell? (a.add (i * 6 + 1)) = some (.int .i64 q.a) ∧ W.cell? (a.add (i * 6 + 2)) = some (.int .i64 q.b) ∧ W.cell? (a.add (i * 6 + 3)) = some (.int .i64 q.c) ∧ W.cell? (a.add (i * 6 + 4)) = some (.bool q.h) ∧ W.cell? (a.add (i * 6 + 5)) = some (SS q.s) ∧ ints q := by
      intro i hi
      obtain ⟨cs', h1, h2⟩ := hx i (by omega)
      rw [ce] at h1
      obtain ⟨_, hlen, hcell⟩ := World.cells?_some h1
      obtain ⟨xs, k, hk, hxy, _, hxl, hf⟩ := DataW.trod_struct hfs h2
      match xs, hxl, cs', hlen with
      | [y0, y1, y2, y3, y4, y5], _, [v0, v1, v2, v3, v4, v5], _ =>
        have g0 := hf 0 f0 rfl
        have g1 := hf 1 f1 rfl
        have g2 := hf 2 f2 rfl
        have g3 := hf 3 f3 rfl
        have g4 := hf 4 f4 rfl
        have g5 := hf 5 f5 rfl
        simp [o0, o1, o2, o3, o4, o5, c0, c1, c2, c3, c4, c5] at g0 g1 g2 g3 g4 g5
        have q0 := hcell 0 (by omega)
        have q1 := hcell 1 (by omega)
        have q2 := hcell 2 (by omega)
        have q3 := hcell 3 (by omega)
        have q4 := hcell 4 (by omega)
        have q5 := hcell 5 (by omega)
        rw [Deep.add_add] at q0 q1 q2 q3 q4 q5
        obtain ⟨X0, hX0, _, hw0⟩ := DataW.trod_int (k := .i64) e0 g0
        obtain ⟨X1, hX1, _, hw1⟩ := DataW.trod_int (k := .i64) e1 g1
        obtain ⟨X2, hX2, _, hw2⟩ := DataW.trod_int (k := .i64) e2 g2
        obtain ⟨X3, hX3, _, hw3⟩ := DataW.trod_int (k := .i64) e3 g3
        obtain ⟨M, hM, _⟩ := DataW.trod_bool e4 g4
        obtain ⟨s, hs, _⟩ := DataW.trod_string e5 g5
        obtain rfl : v0 = .int .i64 X0 := by simpa using hX0
        obtain rfl : v1 = .int .i64 X1 := by simpa using hX1
        obtain rfl : v2 = .int .i64 X2 := by simpa using hX2
        obtain rfl : v3 = .int .i64 X3 := by simpa using hX3
        obtain rfl : v4 = .bool M := by simpa using hM
        obtain rfl : v5 = .string s := by simpa using hs
        exact ⟨⟨X0, X1, X2, X3, M, s.data.toList.map UInt8.toBitVec⟩, by simpa using q0, by simpa using q1, by simpa using q2, by simpa using q3, by simpa using q4, by rw [ss_of]; simpa using q5, bounds_i64 hw0, bounds_i64 hw1, bounds_i64 hw2, bounds_i64 hw3⟩
    obtain ⟨q, hq⟩ := Deep.choose_lt each
    refine ⟨(List.range n).map q, by simp, hl, hm, ?_, ?_⟩
    · intro i p hi
      have hin : i < n := by have := (List.getElem?_eq_some_iff.1 hi).1; simpa using this
      have hqi : q i = p := by simpa [hin] using hi
      obtain ⟨g0, g1, g2, g3, g4, g5, _⟩ := hq i hin
      rw [hqi] at g0 g1 g2 g3 g4 g5
      obtain ⟨b, off, spot⟩ := a
      have hspot : spot = none := by
        have h1 := (hq 0 (by omega)).1
        simpa [Addr.add] using World.cell?_spot h1
      subst hspot
      rw [Addr.add_lit] at g0 g1 g2 g3 g4 g5
      refine ⟨b, off, rfl, block_lt_of_cell g0, g0, ?_, ?_, ?_, ?_, ?_⟩
      · rw [Nat.add_assoc]; exact g1
      · rw [Nat.add_assoc]; exact g2
      · rw [Nat.add_assoc]; exact g3
      · rw [Nat.add_assoc]; exact g4
      · rw [Nat.add_assoc]; exact g5
    · intro p hp
      obtain ⟨i, hi, rfl⟩ := List.mem_map.1 hp
      exact (hq i (List.mem_range.1 hi)).2.2.2.2.2.2
theorem blanks_row (A : Option Addr) (n cap : Nat) (bs : List (BitVec 8)) (z : Int) (A2 : Option Addr) (n2 cap2 : Nat) (ds : List Dz) (w : World) (h0 : In8 w A n cap bs) (hz : (Lit.int .i64 z).wf = true) (h2 : InD w A2 n2 cap2 ds) (_ : True) :
    Calls Tryd.prog 8 #[.slice A n cap, .int .i64 z, .slice A2 n2 cap2] w fun e w' => e = .returned (.bool true) ∧ Below w.heap.size w w' :=
  law_blanks A n cap bs z A2 n2 cap2 ds w h0.1 h0.2.1 h0.2.2.1 h0.2.2.2.1 h0.2.2.2.2 h2.1 h2.2.1 h2.2.2.1 h2.2.2.2.1 h2.2.2.2.2
end Go.Proofs.YtgoobadkbndfgaaDoor
