/- what FrameOwn's row is lifted by: the crc table out of the laid tables -/
import Derived.Test.YtmeoafodcniliaaGreatDoorOwnFr
import Derived.ProofKit
import Derived.LaidMore
import Derived.Lib.LaidTab
import Derived.Stop.Joined
import Derived.Lay
namespace Go.Proofs.YtmeoafodcniliaaGreatDoor
open Go.ChangeShapes Go.WideShapes Go.ChangeAt Go.RowKit
set_option linter.unusedSimpArgs false
set_option linter.unusedVariables false
def tabInts : List Int := [0, 79764919, 159529838, 222504665, 319059676, 398814059, 445009330, 507990021, 638119352, 583659535, 797628118, 726387553, 890018660, 835552979, 1015980042, 944750013]
def laidFr : List (String × DataW Unit) := [("math/bits.deBruijn32tab", Rows.laid_math_bits_deBruijn32tab), ("math/bits.deBruijn64tab", Rows.laid_math_bits_deBruijn64tab), ("internal/strconv.uint64pow10", Rows.laid_internal_strconv_uint64pow10), ("pith/crc.table", Rows.laid_pith_crc_table)]
theorem laid_rest {P : Program} {x : String × DataW Unit} {l : List (String × DataW Unit)} {W : World} (h : laidMet P (x :: l) W) : laidMet P l W := by
  obtain ⟨nm, d⟩ := x
  obtain ⟨ps, hl, hn, hc⟩ := h
  obtain ⟨g, t, cs, fuel, p, q, h1, h2, h3, h4, h5, rfl⟩ := hl
  exact ⟨q, h5, (List.nodup_append.1 hn).2.1, fun b off hm => hc b off (List.mem_append_right _ hm)⟩
theorem gTab : Tryz.prog.globalNamed "pith/crc.table" = some 1 := by kernel_rfl
theorem tTab : (Tryz.prog.globals[1]?).map (·.type) = some 272 := by kernel_rfl
theorem descTab : Tryz.prog.underlying 272 = some (.array 16 150) := by kernel_rfl
theorem descU32 : Tryz.prog.underlying 150 = some (.int .u32) := by kernel_rfl
theorem cellsU32 : Tryz.prog.cellsOf 150 = 1 := by kernel_rfl
theorem cellsTab : Tryz.prog.cellsOf 272 = 16 := by kernel_rfl
theorem tab_vals : ∀ i : Nat, (h : i < Crc.tab.length) → tabInts.getD i 0 = (n32 (Crc.tab[i]) : Int) := by decide +kernel
theorem tab_of_laid {W : World} (h : laidMetH Tryz.prog laidFr W) : TabIn W := by
  rw [MakeChecks.laidMetH_plain _ _ _ (by kernel_rfl)] at h
  have h2 := laid_rest (laid_rest (laid_rest h))
  have hT : Lib.TabIs Tryz.prog W "pith/crc.table" .u32 tabInts := Lib.tabIs_of_head (rest := []) gTab tTab descTab descU32 cellsU32 cellsTab h2
  intro i hi
  rw [hT.cell gTab i (by simpa [tabInts, Crc.tab] using hi), tab_vals i hi]
end Go.Proofs.YtmeoafodcniliaaGreatDoor
