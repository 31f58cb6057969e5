/- lists of bools in memory -/
import Derived.Test.YtmeoafodcniliaaGreatDoorSpLa
namespace Go.Proofs.YtmeoafodcniliaaGreatDoor.C24
open Go.RowKit
set_option linter.unusedSimpArgs false
set_option linter.unusedVariables false
abbrev VB (b : Bool) : Value := .bool b
theorem infoBool : (Tryz.prog.info? 4).map (fun i => (i.zero, i.size, i.bytes)) = some (some (.bool false), 1, 1) := by kernel_rfl
theorem descBools : Tryz.prog.underlying 109 = some (.slice 4) := by kernel_rfl
theorem descBool : Tryz.prog.underlying 4 = some .bool := by kernel_rfl
theorem vb_one (zs : List Bool) : ∀ u ∈ zs.map VB, u.oneCell' = true := by
  intro u hu; obtain ⟨b, _, rfl⟩ := List.mem_map.1 hu; rfl
def zerosB (n : Nat) : Array Value := madeCells (Value.bool false).cells (n * 1)
theorem zerosB_size (n : Nat) : (zerosB n).size = n := by unfold zerosB; rw [size_madeCells]; simp [Value.cells]
theorem make_bool (l c : Nat) (hlc : l ≤ c) (hc : c ≤ 140737488355328) (w : World) : (Instr.makeSlice 109 (.int .i64 (l : Int)) (.int .i64 (c : Int))).run Tryz.prog w =
    .ok (.slice (some ⟨w.heap.size, 0, none⟩) l c) (w.alloc (.cells (zerosB c) 4)) := by
  obtain ⟨i0, hi, hz0, hz1, hz2⟩ := info_parts infoBool
  have := run_make (P := Tryz.prog) w 109 4 i0 _ descBools hi hz0 .i64 .i64 l c (by omega) (by omega) (by rw [hz2]; omega) (by omega)
  rw [this, hz1]; rfl
theorem make0_bool (c : Nat) (hc : c ≤ 140737488355328) (w : World) : (Instr.makeSlice 109 (.int .i64 0) (.int .i64 (c : Int))).run Tryz.prog w =
    .ok (.slice (some ⟨w.heap.size, 0, none⟩) 0 c) (w.alloc (.cells (zerosB c) 4)) := make_bool 0 c (by omega) hc w
theorem rd_getb {w : World} {B : Nat} {A : Option Addr} {zs : List Bool} (h : Rd w B A (zs.map VB)) {k : Nat} {z : Bool} (hk : zs[k]? = some z) : ∃ b off, A = some ⟨b, off, none⟩ ∧ b < B ∧ w.cell? ⟨b, off + k, none⟩ = some (.bool z) :=
  h k _ (by rw [List.getElem?_map, hk]; rfl)
end Go.Proofs.YtmeoafodcniliaaGreatDoor.C24
