/- a slice of pairs that came in; TextBack's row -/
import Derived.Test.YtgoobadkbndfgaaDoorLiftL
import Derived.Test.YtgoobadkbndfgaaDoorLawBack
namespace Go.Proofs.YtgoobadkbndfgaaDoor
open Go.ChangeShapes Go.WideShapes Go.ChangeAt Go.RowKit
set_option linter.unusedSimpArgs false
set_option linter.unusedVariables false
/-- A slice of pairs that came in. -/
def InP (W : World) (A : Option Addr) (n cap : Nat) (ps : List (Int × Int)) : Prop :=
  n = ps.length ∧ n ≤ cap ∧ cap ≤ maxLen ∧ (A = none → n = 0 ∧ cap = 0) ∧ Rd W W.heap.size A (pcs ps) ∧ ∀ p ∈ ps, (-9223372036854775808 ≤ p.1 ∧ p.1 ≤ 9223372036854775807) ∧ -9223372036854775808 ≤ p.2 ∧ p.2 ≤ 9223372036854775807
theorem rd_pcs {w : World} {B : Nat} {A : Option Addr} {ps : List (Int × Int)} (h : ∀ i c, ps[i]? = some c → ∃ b off, A = some ⟨b, off, none⟩ ∧ b < B ∧ w.cell? ⟨b, off + i * 2, none⟩ = some (.int .i64 c.1) ∧ w.cell? ⟨b, off + i * 2 + 1, none⟩ = some (.int .i64 c.2)) : Rd w B A (pcs ps) := by
  intro k v hv
  have hk : k < ps.length * 2 := by rw [← pcs_length]; exact (List.getElem?_eq_some_iff.1 hv).1
  have hi : k / 2 < ps.length := by omega
  have hc := List.getElem?_eq_getElem hi
  obtain ⟨b, off, hA, hb, h0, h1⟩ := h _ _ hc
  obtain ⟨e0, e1⟩ := pcs_get hc
  refine ⟨b, off, hA, hb, ?_⟩
  have hm : k % 2 = 0 ∨ k % 2 = 1 := by omega
  rcases hm with hm | hm
  · have : k = k / 2 * 2 := by omega
    rw [this] at hv; rw [e0] at hv; rw [this, ← hv]; exact h0
  · have : k = k / 2 * 2 + 1 := by omega
    rw [this] at hv; rw [e1] at hv; rw [this, ← hv, ← Nat.add_assoc]; exact h1
set_option maxRecDepth 20000 in
theorem open_prs {H : Type} {enc : TypeId × Value → H} {W : World} {A : Option Addr} {n cap : Nat} {d : DataW H} {p : List MemPlace} {base : Nat} {sp : Nat → Bool} {held : Bool}
    (h0 : DataW.Trod enc Tryd.prog W base sp held 51 (.slice A n cap) d p) : ∃ qs, InP W A n cap qs := by
  obtain ⟨fuel, hf⟩ := h0
  obtain ⟨f0, f1, hfs, o0, o1, c0, c1, e0, e1⟩ : ∃ f0 f1 : Field, Tryd.prog.underlying 76 = some (.struct #[f0, f1]) ∧ f0.offset = 0 ∧ f1.offset = 1 ∧
      Tryd.prog.cellsOf f0.type = 1 ∧ Tryd.prog.cellsOf f1.type = 1 ∧
      Tryd.prog.underlying f0.type = some (.int .i64) ∧ Tryd.prog.underlying f1.type = some (.int .i64) :=
    ⟨_, _, Tryd.underlying76, by kernel_rfl, by kernel_rfl, by kernel_rfl, by kernel_rfl, by kernel_rfl, by kernel_rfl⟩
  have ce : Tryd.prog.cellsOf 76 = 2 := by kernel_rfl
  rcases Deep.open_slice descPas hf with ⟨hcs, _⟩ | ⟨a, l, c, m, fu, D, Pl, hcs, _, hl, hm, hmm, _, hx⟩
  · simp [Value.cells] at hcs
    obtain ⟨rfl, rfl, rfl⟩ := hcs
    exact ⟨[], rfl, Nat.le_refl _, by unfold maxLen; omega, fun _ => ⟨rfl, rfl⟩, Rd.nil _ _ _, by simp⟩
  · simp [Value.cells] at hcs
    obtain ⟨rfl, rfl, rfl⟩ := hcs
    have hnm : n ≤ m := by rw [hmm]; split <;> omega
    have each : ∀ i, i < n → ∃ q : Int × Int, W.cell? (a.add (i * 2)) = some (.int .i64 q.1) ∧ W.cell? (a.add (i * 2 + 1)) = some (.int .i64 q.2) ∧
        ((-9223372036854775808 ≤ q.1 ∧ q.1 ≤ 9223372036854775807) ∧ -9223372036854775808 ≤ q.2 ∧ q.2 ≤ 9223372036854775807) := by
      intro i hi
      obtain ⟨cs', h1, h2⟩ := hx i (by omega)
      rw [ce] at h1
      obtain ⟨_, hlen, hcell⟩ := World.cells?_some h1
      obtain ⟨xs, k, hk, hxy, _, hxl, hf⟩ := DataW.trod_struct hfs h2
      match xs, hxl, cs', hlen with
      | [y0, y1], _, [v0, v1], _ =>
        have g0 := hf 0 f0 rfl
        have g1 := hf 1 f1 rfl
        simp [o0, o1, c0, c1] at g0 g1
        have q0 := hcell 0 (by omega)
        have q1 := hcell 1 (by omega)
        rw [Deep.add_add] at q0 q1
        obtain ⟨X, hX, _, hXw⟩ := DataW.trod_int (k := .i64) e0 g0
        obtain ⟨F, hF, _, hFw⟩ := DataW.trod_int (k := .i64) e1 g1
        obtain rfl : v0 = .int .i64 X := by simpa using hX
        obtain rfl : v1 = .int .i64 F := by simpa using hF
        exact ⟨(X, F), by simpa using q0, by simpa using q1, bounds_i64 hXw, bounds_i64 hFw⟩
    obtain ⟨q, hq⟩ := Deep.choose_lt each
    refine ⟨(List.range n).map q, by simp, hl, hm, (by intro h; cases h), rd_pcs ?_, ?_⟩
    · intro i p hi
      have hin : i < n := by have := (List.getElem?_eq_some_iff.1 hi).1; simpa using this
      have hqi : q i = p := by simpa [hin] using hi
      obtain ⟨g0, g1, _⟩ := hq i hin
      rw [hqi] at g0 g1
      obtain ⟨b, off, spot⟩ := a
      have hspot : spot = none := by
        have h1 := (hq 0 (by omega)).1
        simpa [Addr.add] using World.cell?_spot h1
      subst hspot
      rw [Addr.add_lit] at g0 g1
      refine ⟨b, off, rfl, block_lt_of_cell g0, g0, ?_⟩
      rw [Nat.add_assoc]; exact g1
    · intro p hp
      obtain ⟨i, hi, rfl⟩ := List.mem_map.1 hp
      exact (hq i (List.mem_range.1 hi)).2.2
theorem back_row (n : Int) (A : Option Addr) (k cap : Nat) (ps : List (Int × Int)) (A1 : Option Addr) (k1 cap1 : Nat) (cs : List Tx.Ch) (w : World) (hn : (Lit.int .i64 n).wf = true) (h0 : InP w A k cap ps) (h1 : InC w A1 k1 cap1 cs) (ht : Pow w.heap.size w) :
    Calls Tryd.prog 10 #[.int .i64 n, .slice A k cap, .slice A1 k1 cap1] w fun e w' => e = .returned (.bool true) ∧ Below w.heap.size w w' :=
  law_back n A k cap ps A1 k1 cap1 cs w (bounds_i64 hn).1 (bounds_i64 hn).2 h0.1 h0.2.1 h0.2.2.1 h0.2.2.2.2.1 h0.2.2.2.2.2 h1.1 h1.2.1 h1.2.2.1 h1.2.2.2.2.1 h1.2.2.2.2.2 ht
end Go.Proofs.YtgoobadkbndfgaaDoor
