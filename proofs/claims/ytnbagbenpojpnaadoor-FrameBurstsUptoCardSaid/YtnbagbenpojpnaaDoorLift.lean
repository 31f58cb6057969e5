/- What every row of this seat is lifted by: the arguments opened, the laid table. -/
import Derived.Test.YtnbagbenpojpnaaDoorRows
import Derived.Test.YtnbagbenpojpnaaDoorLawEnc
import Derived.Lib.SmallJoins
import Derived.ProofKit
import Derived.LaidMore
import Derived.OpenShut
import Derived.ShutString
import Derived.ChangeOld
import Derived.Stop.Joined
import Derived.Lib.LaidTab
namespace Go.Proofs.YtnbagbenpojpnaaDoor
open Go.ChangeShapes Go.WideShapes Go.ChangeAt Go.RowKit
set_option linter.unusedSimpArgs false
set_option linter.unusedVariables false

theorem own : ownKnob Tryd.prog.godebug = none := by kernel_rfl
theorem laidOut : laidOutB Tryd.prog = true := by kernel_rfl
def tabInts : List Int := [0, 79764919, 159529838, 222504665, 319059676, 398814059, 445009330, 507990021, 638119352, 583659535, 797628118, 726387553, 890018660, 835552979, 1015980042, 944750013]
def laidAll : List (String × DataW Unit) := [("pith/crc.table", Rows.laid_pith_crc_table)]
theorem gTab : Tryd.prog.globalNamed "pith/crc.table" = some 0 := by kernel_rfl
theorem tTab : (Tryd.prog.globals[0]?).map (·.type) = some 67 := by kernel_rfl
theorem descTab : Tryd.prog.underlying 67 = some (.array 16 51) := by kernel_rfl
theorem descU32 : Tryd.prog.underlying 51 = some (.int .u32) := by kernel_rfl
theorem cellsU32 : Tryd.prog.cellsOf 51 = 1 := by kernel_rfl
theorem cellsTab : Tryd.prog.cellsOf 67 = 16 := by kernel_rfl
theorem tab_vals : ∀ i : Nat, (h : i < Crc.tab.length) → tabInts.getD i 0 = (n32 (Crc.tab[i]) : Int) := by decide +kernel
theorem tab_of_laid {W : World} (h : laidMetH Tryd.prog laidAll W) : TabIn W := by
  rw [MakeChecks.laidMetH_plain _ _ _ (by kernel_rfl)] at h
  have hT : Lib.TabIs Tryd.prog W "pith/crc.table" .u32 tabInts := Lib.tabIs_of_head (rest := []) gTab tTab descTab descU32 cellsU32 cellsTab h
  intro i hi
  rw [hT.cell gTab i (by simpa [tabInts, Crc.tab] using hi), tab_vals i hi]
theorem door_met (os : Os) (args : Array Value) : laidMetH Tryd.prog laidAll ((World.doorLaid Tryd.prog 14 os).forCall (fun _ _ => 0) ⟨#[], args, []⟩).memory :=
  laidMetH_of_parts3 (fuel := 8) (laidMet_of_run' 8 (by kernel_rfl) (by kernel_rfl)) (by kernel_rfl) (by kernel_rfl)

theorem int8 {z : Int} (h : (Lit.int .u8 z).wf = true) : z = (n8 (BitVec.ofInt 8 z) : Int) := by
  have hb := bounds_u8 h
  unfold n8
  rw [BitVec.toNat_ofInt]
  omega
theorem int32 {z : Int} (h : (Lit.int .u32 z).wf = true) : z = (n32 (BitVec.ofInt 32 z) : Int) := by
  have hb := bounds_u32 h
  unfold n32
  rw [BitVec.toNat_ofInt]
  omega
theorem open_u8s {H : Type} {enc : TypeId × Value → H} {W : World} {A : Option Addr} {n cap : Nat} {d : DataW H} {p : List MemPlace} {base : Nat} {sp : Nat → Bool} {held : Bool}
    (h0 : DataW.Trod enc Tryd.prog W base sp held 22 (.slice A n cap) d p) : ∃ bs, In8 W A n cap bs := by
  obtain ⟨fuel, hf⟩ := h0
  rcases open_ints descU8s descU8 (by kernel_rfl) hf with ⟨hcs, _⟩ | ⟨x, l, c, zs, hcs, _, hl, hm, hz, _, hcell, hwz⟩
  · simp [Value.cells] at hcs
    obtain ⟨rfl, rfl, rfl⟩ := hcs
    exact ⟨[], rfl, Nat.le_refl _, by unfold maxLen; omega, fun _ => ⟨rfl, rfl⟩, Rd.nil _ _ _⟩
  · simp [Value.cells] at hcs
    obtain ⟨rfl, rfl, rfl⟩ := hcs
    have hlen : n ≤ zs.length := by rw [hz]; split <;> omega
    refine ⟨(zs.take n).map (BitVec.ofInt 8), by simp; omega, hl, hm, (by intro h; cases h), ?_⟩
    intro k v hv
    have hk : k < n := by
      have := (List.getElem?_eq_some_iff.1 hv).1
      simp at this; omega
    have hc := hcell k (by omega)
    obtain ⟨b, off, spot⟩ := x
    have hspot : spot = none := by
      have h1 := hcell 0 (by omega)
      simpa [Addr.add] using World.cell?_spot h1
    subst hspot
    rw [Addr.add_lit] at hc
    refine ⟨b, off, rfl, ?_, ?_⟩
    · have := block_lt_of_cell hc; exact this
    · rw [hc, ← hv]
      have e : zs.getD k 0 = zs[k]'(by omega) := by simp [List.getD, List.getElem?_eq_getElem (show k < zs.length by omega)]
      have hw := hwz _ (List.getElem_mem (show k < zs.length by omega))
      rw [e, int8 hw]
      simp [List.getElem?_map, List.getElem?_take, hk, List.getElem?_eq_getElem (show k < zs.length by omega)]
theorem open_frame {H : Type} {enc : TypeId × Value → H} {W : World} {v : Value} {d : DataW H} {p : List MemPlace} {base b0 : Nat} {sp : Nat → Bool} {held : Bool} {r : Reach}
    (hv : Value.okWide Tryd.prog W r b0 24 v) (h : DataW.Trod enc Tryd.prog W base sp held 24 v d p) : ∃ k A n cap bs, v = VF k A n cap ∧ In8 W A n cap bs := by
  obtain ⟨c0, c1, y0, y1, m, rfl, rfl, rfl, hy0, hy1⟩ := Joins.open_agg2 Tryd.underlying24 (by kernel_rfl) (by kernel_rfl) hv h
  obtain ⟨k, hk, _, _⟩ := DataW.trod_int (k := .i64) (by kernel_rfl) hy0
  obtain rfl : c0 = .int .i64 k := by simpa using hk
  have hs : ∃ A n cap, c1 = .slice A n cap := by
    rcases open_ints (t := 22) descU8s descU8 (by kernel_rfl) hy1 with ⟨hcs, _⟩ | ⟨x, l, c, zs, hcs, _⟩
    · exact ⟨none, 0, 0, by simpa using hcs⟩
    · exact ⟨some x, l, c, by simpa using hcs⟩
  obtain ⟨A, n, cap, rfl⟩ := hs
  obtain ⟨bs, hb⟩ := open_u8s (A := A) (n := n) (cap := cap) (d := y1.1) (p := y1.2) (enc := enc) (W := W) (base := base) (sp := sp) (held := held) ⟨m, hy1⟩
  exact ⟨k, A, n, cap, bs, rfl, hb⟩
end Go.Proofs.YtnbagbenpojpnaaDoor
