/- rows that list the digits' tables; a slice of changes that came in -/
import Derived.Test.YtgoobadkbndfgaaDoorLift
import Derived.Test.YtgoobadkbndfgaaDoorLawPrC
import Derived.Deep.SlicePairs
namespace Go.Proofs.YtgoobadkbndfgaaDoor
open Go.ChangeShapes Go.WideShapes Go.ChangeAt Go.RowKit
set_option linter.unusedSimpArgs false
set_option linter.unusedVariables false
def laidLong : List (String × DataW Unit) := [("math/bits.deBruijn32tab", Rows.laid_math_bits_deBruijn32tab), ("math/bits.deBruijn64tab", Rows.laid_math_bits_deBruijn64tab), ("internal/strconv.uint64pow10", Rows.laid_internal_strconv_uint64pow10), ("unicode/utf8.acceptRanges", Rows.laid_unicode_utf8_acceptRanges), ("unicode/utf8.first", Rows.laid_unicode_utf8_first)]
theorem shapedL (os : Os) : (World.laidAll Tryd.prog os laidLong).Shaped Tryd.prog := World.shaped_of_ZipB (by kernel_rfl) (by kernel_rfl)
theorem door_metL (os : Os) (args : Array Value) : laidMetH Tryd.prog laidLong ((World.laidAll Tryd.prog os laidLong).forCall (fun _ _ => 0) ⟨#[], args, []⟩).memory := by
  rw [MakeChecks.laidMetH_plain _ _ _ (by kernel_rfl)]; exact laidMet_laidAll _ (by kernel_rfl) (by kernel_rfl)
theorem laid_tail {P : Program} {x : String × DataW Unit} {l : List (String × DataW Unit)} {W : World} (h : laidMet P (x :: l) W) : laidMet P l W := by
  obtain ⟨nm, d⟩ := x
  obtain ⟨ps, hl, hn, hc⟩ := h
  obtain ⟨g, t, cs, fuel, p, q, h1, h2, h3, h4, h5, rfl⟩ := hl
  exact ⟨q, h5, (List.nodup_append.1 hn).2.1, fun b off hm => hc b off (List.mem_append_right _ hm)⟩
theorem gPow : Tryd.prog.globalNamed "internal/strconv.uint64pow10" = some 1 := by kernel_rfl
theorem tPow : (Tryd.prog.globals[1]?).map (·.type) = some 137 := by kernel_rfl
theorem descPow : Tryd.prog.underlying 137 = some (.array 20 124) := by kernel_rfl
theorem descU64' : Tryd.prog.underlying 124 = some (.int .u64) := by kernel_rfl
theorem cellsU64' : Tryd.prog.cellsOf 124 = 1 := by kernel_rfl
theorem cellsPow : Tryd.prog.cellsOf 137 = 20 := by kernel_rfl
theorem powData : (Rows.laid_internal_strconv_uint64pow10 : DataW Unit) = Lib.tabData .u64 Lib.pow10Tab := by kernel_rfl
theorem tab_below {P : Program} {nm : String} {g : Nat} {k : IntKind} {zs : List Int} {w w' : World} (hg : P.globalNamed nm = some g) (h : Lib.TabIs P w nm k zs) (hb : Below w.heap.size w w') : Lib.TabIs P w' nm k zs := by
  have hx := h
  simp only [Lib.TabIs, World.var?, hg, Option.bind_some] at hx ⊢
  by_cases hlt : g < w.heap.size
  · rw [hb.block g hlt]; exact hx
  · rw [Array.getElem?_eq_none (by omega)] at hx; cases hx
theorem pow_of_laid {W : World} (h : laidMetH Tryd.prog laidLong W) : Pow W.heap.size W := by
  rw [MakeChecks.laidMetH_plain _ _ _ (by kernel_rfl)] at h
  have h2 := laid_tail (laid_tail h)
  rw [powData] at h2
  have hT : Lib.TabIs Tryd.prog W "internal/strconv.uint64pow10" .u64 Lib.pow10Tab := Lib.tabIs_of_head gPow tPow descPow descU64' cellsU64' cellsPow h2
  exact fun w' hb => tab_below gPow hT hb
/-- A slice of changes that came in. -/
def InC (W : World) (A : Option Addr) (n cap : Nat) (ps : List Tx.Ch) : Prop :=
  n = ps.length ∧ n ≤ cap ∧ cap ≤ maxLen ∧ (A = none → n = 0 ∧ cap = 0) ∧ Rd W W.heap.size A (chs ps) ∧ ∀ p ∈ ps, (-9223372036854775808 ≤ p.u ∧ p.u ≤ 9223372036854775807) ∧ -9223372036854775808 ≤ p.v ∧ p.v ≤ 9223372036854775807
theorem rd_chs {w : World} {B : Nat} {A : Option Addr} {ps : List Tx.Ch} (h : ∀ i c, ps[i]? = some c → ∃ b off, A = some ⟨b, off, none⟩ ∧ b < B ∧ w.cell? ⟨b, off + i * 3, none⟩ = some (.int .i64 c.u) ∧ w.cell? ⟨b, off + i * 3 + 1, none⟩ = some (.int .i64 c.v) ∧ w.cell? ⟨b, off + i * 3 + 2, none⟩ = some (.bool c.gone)) : Rd w B A (chs ps) := by
  intro k v hv
  have hk : k < ps.length * 3 := by rw [← chs_length]; exact (List.getElem?_eq_some_iff.1 hv).1
  have hi : k / 3 < ps.length := by omega
  have hc := List.getElem?_eq_getElem hi
  obtain ⟨b, off, hA, hb, h0, h1, h2⟩ := h _ _ hc
  obtain ⟨e0, e1, e2⟩ := chs_get hc
  refine ⟨b, off, hA, hb, ?_⟩
  have hm : k % 3 = 0 ∨ k % 3 = 1 ∨ k % 3 = 2 := by omega
  rcases hm with hm | hm | hm
  · have : k = k / 3 * 3 := by omega
    rw [this] at hv; rw [e0] at hv; rw [this, ← hv]; exact h0
  · have : k = k / 3 * 3 + 1 := by omega
    rw [this] at hv; rw [e1] at hv; rw [this, ← hv, ← Nat.add_assoc]; exact h1
  · have : k = k / 3 * 3 + 2 := by omega
    rw [this] at hv; rw [e2] at hv; rw [this, ← hv, ← Nat.add_assoc]; exact h2
instance : Inhabited Tx.Ch := ⟨⟨0, 0, false, 0⟩⟩
set_option maxRecDepth 20000 in
theorem open_chs {H : Type} {enc : TypeId × Value → H} {W : World} {A : Option Addr} {n cap : Nat} {d : DataW H} {p : List MemPlace} {base : Nat} {sp : Nat → Bool} {held : Bool}
    (h0 : DataW.Trod enc Tryd.prog W base sp held 22 (.slice A n cap) d p) : ∃ qs, InC W A n cap qs := by
  obtain ⟨fuel, hf⟩ := h0
  obtain ⟨f0, f1, f2, hfs, o0, o1, o2, c0, c1, c2, e0, e1, e2⟩ : ∃ f0 f1 f2 : Field, Tryd.prog.underlying 26 = some (.struct #[f0, f1, f2]) ∧ f0.offset = 0 ∧ f1.offset = 1 ∧ f2.offset = 2 ∧
      Tryd.prog.cellsOf f0.type = 1 ∧ Tryd.prog.cellsOf f1.type = 1 ∧ Tryd.prog.cellsOf f2.type = 1 ∧
      Tryd.prog.underlying f0.type = some (.int .i64) ∧ Tryd.prog.underlying f1.type = some (.int .i64) ∧ Tryd.prog.underlying f2.type = some .bool :=
    ⟨_, _, _, Tryd.underlying26, by kernel_rfl, by kernel_rfl, by kernel_rfl, by kernel_rfl, by kernel_rfl, by kernel_rfl, by kernel_rfl, by kernel_rfl, by kernel_rfl⟩
  have ce : Tryd.prog.cellsOf 26 = 3 := by kernel_rfl
  rcases Deep.open_slice descChs hf with ⟨hcs, _⟩ | ⟨a, l, c, m, fu, D, Pl, hcs, _, hl, hm, hmm, _, hx⟩
  · simp [Value.cells] at hcs
    obtain ⟨rfl, rfl, rfl⟩ := hcs
    exact ⟨[], rfl, Nat.le_refl _, by unfold maxLen; omega, fun _ => ⟨rfl, rfl⟩, Rd.nil _ _ _, by simp⟩
  · simp [Value.cells] at hcs
    obtain ⟨rfl, rfl, rfl⟩ := hcs
    have hnm : n ≤ m := by rw [hmm]; split <;> omega
    have each : ∀ i, i < n → ∃ q : Tx.Ch, W.cell? (a.add (i * 3)) = some (.int .i64 q.u) ∧ W.cell? (a.add (i * 3 + 1)) = some (.int .i64 q.v) ∧ W.cell? (a.add (i * 3 + 2)) = some (.bool q.gone) ∧
        ((-9223372036854775808 ≤ q.u ∧ q.u ≤ 9223372036854775807) ∧ -9223372036854775808 ≤ q.v ∧ q.v ≤ 9223372036854775807) := by
      intro i hi
      obtain ⟨cs', h1, h2⟩ := hx i (by omega)
      rw [ce] at h1
      obtain ⟨_, hlen, hcell⟩ := World.cells?_some h1
      obtain ⟨xs, k, hk, hxy, _, hxl, hf⟩ := DataW.trod_struct hfs h2
      match xs, hxl, cs', hlen with
      | [y0, y1, y2], _, [v0, v1, v2], _ =>
        have g0 := hf 0 f0 rfl
        have g1 := hf 1 f1 rfl
        have g2 := hf 2 f2 rfl
        simp [o0, o1, o2, c0, c1, c2] at g0 g1 g2
        have q0 := hcell 0 (by omega)
        have q1 := hcell 1 (by omega)
        have q2 := hcell 2 (by omega)
        rw [Deep.add_add] at q0 q1 q2
        obtain ⟨X, hX, _, hXw⟩ := DataW.trod_int (k := .i64) e0 g0
        obtain ⟨F, hF, _, hFw⟩ := DataW.trod_int (k := .i64) e1 g1
        obtain ⟨M, hM, _⟩ := DataW.trod_bool e2 g2
        obtain rfl : v0 = .int .i64 X := by simpa using hX
        obtain rfl : v1 = .int .i64 F := by simpa using hF
        obtain rfl : v2 = .bool M := by simpa using hM
        exact ⟨⟨X, F, M, 0⟩, by simpa using q0, by simpa using q1, by simpa using q2, bounds_i64 hXw, bounds_i64 hFw⟩
    obtain ⟨q, hq⟩ := Deep.choose_lt each
    refine ⟨(List.range n).map q, by simp, hl, hm, (by intro h; cases h), rd_chs ?_, ?_⟩
    · intro i p hi
      have hin : i < n := by have := (List.getElem?_eq_some_iff.1 hi).1; simpa using this
      have hqi : q i = p := by simpa [hin] using hi
      obtain ⟨g0, g1, g2, _⟩ := hq i hin
      rw [hqi] at g0 g1 g2
      obtain ⟨b, off, spot⟩ := a
      have hspot : spot = none := by
        have h1 := (hq 0 (by omega)).1
        simpa [Addr.add] using World.cell?_spot h1
      subst hspot
      rw [Addr.add_lit] at g0 g1 g2
      refine ⟨b, off, rfl, block_lt_of_cell g0, g0, ?_, ?_⟩
      · rw [Nat.add_assoc]; exact g1
      · rw [Nat.add_assoc]; exact g2
    · intro p hp
      obtain ⟨i, hi, rfl⟩ := List.mem_map.1 hp
      exact (hq i (List.mem_range.1 hi)).2.2.2
theorem prc_row (A : Option Addr) (n cap : Nat) (ps : List Tx.Ch) (w : World) (h0 : InC w A n cap ps) (ht : Pow w.heap.size w) :
    Calls Tryd.prog 3 #[.slice A n cap] w fun e w' => e = .returned (.bool true) ∧ Below w.heap.size w w' :=
  law_prc A n cap ps w h0.1 h0.2.1 h0.2.2.1 h0.2.2.2.1 h0.2.2.2.2.1 h0.2.2.2.2.2 ht
end Go.Proofs.YtgoobadkbndfgaaDoor
