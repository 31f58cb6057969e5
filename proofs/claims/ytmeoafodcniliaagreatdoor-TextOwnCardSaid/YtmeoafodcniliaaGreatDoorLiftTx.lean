/- what TextOwn's row is lifted by: the arguments opened, the five laid tables -/
import Derived.Test.YtmeoafodcniliaaGreatDoorRows
import Derived.Test.YtmeoafodcniliaaGreatDoorOwnTx
import Derived.WalkKit
import Derived.ProofKit
import Derived.OpenShut
import Derived.LaidMore
import Derived.Lib.LaidTab
import Derived.Stop.Joined
import Derived.Lay
import Derived.ShutString
import Derived.ChangeOld
import Derived.Lib.SmallJoins
import Derived.Deep.SlicePairs
namespace Go.Proofs.YtmeoafodcniliaaGreatDoor.TL
open Go.ChangeShapes Go.WideShapes Go.ChangeAt Go.RowKit
open C4 (Pow pcs pcs_length pcs_get descPas)
set_option linter.unusedSimpArgs false
set_option linter.unusedVariables false
theorem own : ownKnob Tryz.prog.godebug = none := by kernel_rfl
theorem laidOut : laidOutB Tryz.prog = true := by kernel_rfl
/-- A slice of bytes, of ints, that came in. -/
def In8 (W : World) (A : Option Addr) (n cap : Nat) (bs : List (BitVec 8)) : Prop :=
  n = bs.length ∧ n ≤ cap ∧ cap ≤ maxLen ∧ (A = none → n = 0 ∧ cap = 0) ∧ Rd W W.heap.size A (bs.map V8)
theorem int8 {z : Int} (h : (Lit.int .u8 z).wf = true) : z = (n8 (BitVec.ofInt 8 z) : Int) := by
  have hb := bounds_u8 h
  unfold n8
  rw [BitVec.toNat_ofInt]
  omega
theorem open_u8s {H : Type} {enc : TypeId × Value → H} {W : World} {A : Option Addr} {n cap : Nat} {d : DataW H} {p : List MemPlace} {base : Nat} {sp : Nat → Bool} {held : Bool}
    (h0 : DataW.Trod enc Tryz.prog W base sp held 22 (.slice A n cap) d p) : ∃ bs, In8 W A n cap bs := by
  obtain ⟨fuel, hf⟩ := h0
  rcases open_ints descU8s descU8 (by kernel_rfl) hf with ⟨hcs, _⟩ | ⟨x, l, c, zs, hcs, _, hl, hm, hz, _, hcell, hwz⟩
  · simp [Value.cells] at hcs
    obtain ⟨rfl, rfl, rfl⟩ := hcs
    exact ⟨[], rfl, Nat.le_refl _, by unfold maxLen; omega, fun _ => ⟨rfl, rfl⟩, Rd.nil _ _ _⟩
  · simp [Value.cells] at hcs
    obtain ⟨rfl, rfl, rfl⟩ := hcs
    have hlen : n ≤ zs.length := by rw [hz]; split <;> omega
    refine ⟨(zs.take n).map (BitVec.ofInt 8), by simp; omega, hl, hm, (by intro h; cases h), ?_⟩
    intro k v hv
    have hk : k < n := by
      have := (List.getElem?_eq_some_iff.1 hv).1
      simp at this; omega
    have hc := hcell k (by omega)
    obtain ⟨b, off, spot⟩ := x
    have hspot : spot = none := by
      have h1 := hcell 0 (by omega)
      simpa [Addr.add] using World.cell?_spot h1
    subst hspot
    rw [Addr.add_lit] at hc
    refine ⟨b, off, rfl, block_lt_of_cell hc, ?_⟩
    rw [hc, ← hv]
    have e : zs.getD k 0 = zs[k]'(by omega) := by simp [List.getD, List.getElem?_eq_getElem (show k < zs.length by omega)]
    have hw := hwz _ (List.getElem_mem (show k < zs.length by omega))
    rw [e, int8 hw]
    simp [List.getElem?_map, List.getElem?_take, hk, List.getElem?_eq_getElem (show k < zs.length by omega)]
def laidLong : List (String × DataW Unit) := [("math/bits.deBruijn32tab", Rows.laid_math_bits_deBruijn32tab), ("math/bits.deBruijn64tab", Rows.laid_math_bits_deBruijn64tab), ("internal/strconv.uint64pow10", Rows.laid_internal_strconv_uint64pow10), ("unicode/utf8.acceptRanges", Rows.laid_unicode_utf8_acceptRanges), ("unicode/utf8.first", Rows.laid_unicode_utf8_first)]
theorem shapedL (os : Os) : (World.laidAll Tryz.prog os laidLong).Shaped Tryz.prog := World.shaped_of_ZipB (by kernel_rfl) (by kernel_rfl)
theorem door_metL (os : Os) (args : Array Value) : laidMetH Tryz.prog laidLong ((World.laidAll Tryz.prog os laidLong).forCall (fun _ _ => 0) ⟨#[], args, []⟩).memory := by
  rw [MakeChecks.laidMetH_plain _ _ _ (by kernel_rfl)]; exact laidMet_laidAll _ (by kernel_rfl) (by kernel_rfl)
theorem laid_tail {P : Program} {x : String × DataW Unit} {l : List (String × DataW Unit)} {W : World} (h : laidMet P (x :: l) W) : laidMet P l W := by
  obtain ⟨nm, d⟩ := x
  obtain ⟨ps, hl, hn, hc⟩ := h
  obtain ⟨g, t, cs, fuel, p, q, h1, h2, h3, h4, h5, rfl⟩ := hl
  exact ⟨q, h5, (List.nodup_append.1 hn).2.1, fun b off hm => hc b off (List.mem_append_right _ hm)⟩
theorem gPow : Tryz.prog.globalNamed "internal/strconv.uint64pow10" = some 5 := by kernel_rfl
theorem tPow : (Tryz.prog.globals[5]?).map (·.type) = some 285 := by kernel_rfl
theorem descPow : Tryz.prog.underlying 285 = some (.array 20 164) := by kernel_rfl
theorem descU64' : Tryz.prog.underlying 164 = some (.int .u64) := by kernel_rfl
theorem cellsU64' : Tryz.prog.cellsOf 164 = 1 := by kernel_rfl
theorem cellsPow : Tryz.prog.cellsOf 285 = 20 := by kernel_rfl
theorem powData : (Rows.laid_internal_strconv_uint64pow10 : DataW Unit) = Lib.tabData .u64 Lib.pow10Tab := by kernel_rfl
theorem tab_below {P : Program} {nm : String} {g : Nat} {k : IntKind} {zs : List Int} {w w' : World} (hg : P.globalNamed nm = some g) (h : Lib.TabIs P w nm k zs) (hb : Below w.heap.size w w') : Lib.TabIs P w' nm k zs := by
  have hx := h
  simp only [Lib.TabIs, World.var?, hg, Option.bind_some] at hx ⊢
  by_cases hlt : g < w.heap.size
  · rw [hb.block g hlt]; exact hx
  · rw [Array.getElem?_eq_none (by omega)] at hx; cases hx
theorem pow_of_laid {W : World} (h : laidMetH Tryz.prog laidLong W) : Pow W.heap.size W := by
  rw [MakeChecks.laidMetH_plain _ _ _ (by kernel_rfl)] at h
  have h2 := laid_tail (laid_tail h)
  rw [powData] at h2
  have hT : Lib.TabIs Tryz.prog W "internal/strconv.uint64pow10" .u64 Lib.pow10Tab := Lib.tabIs_of_head gPow tPow descPow descU64' cellsU64' cellsPow h2
  exact fun w' hb => tab_below gPow hT hb
/-- A slice of pairs that came in. -/
def InP (W : World) (A : Option Addr) (n cap : Nat) (ps : List (Int × Int)) : Prop :=
  n = ps.length ∧ n ≤ cap ∧ cap ≤ maxLen ∧ (A = none → n = 0 ∧ cap = 0) ∧ Rd W W.heap.size A (pcs ps) ∧ ∀ p ∈ ps, (-9223372036854775808 ≤ p.1 ∧ p.1 ≤ 9223372036854775807) ∧ -9223372036854775808 ≤ p.2 ∧ p.2 ≤ 9223372036854775807
theorem rd_pcs {w : World} {B : Nat} {A : Option Addr} {ps : List (Int × Int)} (h : ∀ i c, ps[i]? = some c → ∃ b off, A = some ⟨b, off, none⟩ ∧ b < B ∧ w.cell? ⟨b, off + i * 2, none⟩ = some (.int .i64 c.1) ∧ w.cell? ⟨b, off + i * 2 + 1, none⟩ = some (.int .i64 c.2)) : Rd w B A (pcs ps) := by
  intro k v hv
  have hk : k < ps.length * 2 := by rw [← pcs_length]; exact (List.getElem?_eq_some_iff.1 hv).1
  have hi : k / 2 < ps.length := by omega
  have hc := List.getElem?_eq_getElem hi
  obtain ⟨b, off, hA, hb, h0, h1⟩ := h _ _ hc
  obtain ⟨e0, e1⟩ := pcs_get hc
  refine ⟨b, off, hA, hb, ?_⟩
  have hm : k % 2 = 0 ∨ k % 2 = 1 := by omega
  rcases hm with hm | hm
  · have : k = k / 2 * 2 := by omega
    rw [this] at hv; rw [e0] at hv; rw [this, ← hv]; exact h0
  · have : k = k / 2 * 2 + 1 := by omega
    rw [this] at hv; rw [e1] at hv; rw [this, ← hv, ← Nat.add_assoc]; exact h1
set_option maxRecDepth 20000 in
theorem open_prs {H : Type} {enc : TypeId × Value → H} {W : World} {A : Option Addr} {n cap : Nat} {d : DataW H} {p : List MemPlace} {base : Nat} {sp : Nat → Bool} {held : Bool}
    (h0 : DataW.Trod enc Tryz.prog W base sp held 23 (.slice A n cap) d p) : ∃ qs, InP W A n cap qs := by
  obtain ⟨fuel, hf⟩ := h0
  obtain ⟨f0, f1, hfs, o0, o1, c0, c1, e0, e1⟩ : ∃ f0 f1 : Field, Tryz.prog.underlying 127 = some (.struct #[f0, f1]) ∧ f0.offset = 0 ∧ f1.offset = 1 ∧
      Tryz.prog.cellsOf f0.type = 1 ∧ Tryz.prog.cellsOf f1.type = 1 ∧
      Tryz.prog.underlying f0.type = some (.int .i64) ∧ Tryz.prog.underlying f1.type = some (.int .i64) :=
    ⟨_, _, Tryz.underlying127, by kernel_rfl, by kernel_rfl, by kernel_rfl, by kernel_rfl, by kernel_rfl, by kernel_rfl⟩
  have ce : Tryz.prog.cellsOf 127 = 2 := by kernel_rfl
  rcases Deep.open_slice descPas hf with ⟨hcs, _⟩ | ⟨a, l, c, m, fu, D, Pl, hcs, _, hl, hm, hmm, _, hx⟩
  · simp [Value.cells] at hcs
    obtain ⟨rfl, rfl, rfl⟩ := hcs
    exact ⟨[], rfl, Nat.le_refl _, by unfold maxLen; omega, fun _ => ⟨rfl, rfl⟩, Rd.nil _ _ _, by simp⟩
  · simp [Value.cells] at hcs
    obtain ⟨rfl, rfl, rfl⟩ := hcs
    have hnm : n ≤ m := by rw [hmm]; split <;> omega
    have each : ∀ i, i < n → ∃ q : Int × Int, W.cell? (a.add (i * 2)) = some (.int .i64 q.1) ∧ W.cell? (a.add (i * 2 + 1)) = some (.int .i64 q.2) ∧
        ((-9223372036854775808 ≤ q.1 ∧ q.1 ≤ 9223372036854775807) ∧ -9223372036854775808 ≤ q.2 ∧ q.2 ≤ 9223372036854775807) := by
      intro i hi
      obtain ⟨cs', h1, h2⟩ := hx i (by omega)
      rw [ce] at h1
      obtain ⟨_, hlen, hcell⟩ := World.cells?_some h1
      obtain ⟨xs, k, hk, hxy, _, hxl, hf⟩ := DataW.trod_struct hfs h2
      match xs, hxl, cs', hlen with
      | [y0, y1], _, [v0, v1], _ =>
        have g0 := hf 0 f0 rfl
        have g1 := hf 1 f1 rfl
        simp [o0, o1, c0, c1] at g0 g1
        have q0 := hcell 0 (by omega)
        have q1 := hcell 1 (by omega)
        rw [Deep.add_add] at q0 q1
        obtain ⟨X, hX, _, hXw⟩ := DataW.trod_int (k := .i64) e0 g0
        obtain ⟨F, hF, _, hFw⟩ := DataW.trod_int (k := .i64) e1 g1
        obtain rfl : v0 = .int .i64 X := by simpa using hX
        obtain rfl : v1 = .int .i64 F := by simpa using hF
        exact ⟨(X, F), by simpa using q0, by simpa using q1, bounds_i64 hXw, bounds_i64 hFw⟩
    obtain ⟨q, hq⟩ := Deep.choose_lt each
    refine ⟨(List.range n).map q, by simp, hl, hm, (by intro h; cases h), rd_pcs ?_, ?_⟩
    · intro i p hi
      have hin : i < n := by have := (List.getElem?_eq_some_iff.1 hi).1; simpa using this
      have hqi : q i = p := by simpa [hin] using hi
      obtain ⟨g0, g1, _⟩ := hq i hin
      rw [hqi] at g0 g1
      obtain ⟨b, off, spot⟩ := a
      have hspot : spot = none := by
        have h1 := (hq 0 (by omega)).1
        simpa [Addr.add] using World.cell?_spot h1
      subst hspot
      rw [Addr.add_lit] at g0 g1
      refine ⟨b, off, rfl, block_lt_of_cell g0, g0, ?_⟩
      rw [Nat.add_assoc]; exact g1
    · intro p hp
      obtain ⟨i, hi, rfl⟩ := List.mem_map.1 hp
      exact (hq i (List.mem_range.1 hi)).2.2
theorem own_row (A : Option Addr) (n cap : Nat) (b : List (BitVec 8)) (z : Int) (A2 : Option Addr) (n2 cap2 : Nat) (ps : List (Int × Int)) (w : World) (ha : In8 w A n cap b) (hz : (Lit.int .i64 z).wf = true) (hp : InP w A2 n2 cap2 ps) (ht : Pow w.heap.size w) :
    Calls Tryz.prog 3 #[.slice A n cap, .int .i64 z, .slice A2 n2 cap2] w fun e w' => e = .returned (.bool true) ∧ Below w.heap.size w w' :=
  law_tx A n cap b z A2 n2 cap2 ps w ha (bounds_i64 hz) hp ht
end Go.Proofs.YtmeoafodcniliaaGreatDoor.TL
