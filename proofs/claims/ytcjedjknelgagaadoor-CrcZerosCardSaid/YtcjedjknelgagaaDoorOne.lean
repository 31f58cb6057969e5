/- oneStep: the matrix of one step -/
import Derived.Test.YtcjedjknelgagaaDoorTwice
namespace Go.Proofs.YtcjedjknelgagaaDoor
open Go.RowKit
set_option linter.unusedSimpArgs false
set_option linter.unusedVariables false
theorem two_pow_n32 (k : Nat) : (2 ^ (k + 1) % 4294967296 : Int) = (n32 (1#32 <<< (k + 1)) : Int) := by
  unfold n32
  rw [BitVec.toNat_shiftLeft, Nat.shiftLeft_eq]
  simp
attribute [local go_sem ↓] load_mat store_mat
attribute [local go_sem] isLoadOf loadArg isRowAt_ptr rowAt_ptr blkOf_ptr aggOf_agg isAggV_agg

/-- The first k rows of one step's matrix. -/
def oneRows (k : Nat) : Nat → BitVec 32 := fun i => if i < k then 1#32 <<< (i + 1) else 0
theorem one_next (k : Nat) (hk : k < 32) : (mat (oneRows k)).setIfInBounds k (V32 (1#32 <<< (k + 1))) = mat (oneRows (k + 1)) := by
  apply mat_set
  · simp [oneRows]
  · intro i _ hi; unfold oneRows
    by_cases h : i < k
    · rw [if_pos h, if_pos (by omega)]
    · rw [if_neg h, if_neg (by omega)]
def OneLoop (w wr : World) (k : Nat) : Prop :=
  (∃ m', wr.heap[w.heap.size]? = some (.cells (mat m') 47 (0, 0))) ∧
  wr.heap[w.heap.size + 1]? = some (.cells (mat (oneRows k)) 47 (0, 0)) ∧ Below w.heap.size w wr
theorem heap2_a (w : World) (A B : Obj) : ((w.alloc A).alloc B).heap[w.heap.size]? = some A := by
  rw [Below.heap_alloc _ _ _ (by simp), heap_alloc_new]
theorem heap2_b (w : World) (A B : Obj) : ((w.alloc A).alloc B).heap[w.heap.size + 1]? = some B := by
  have := heap_alloc_new (w.alloc A) B
  simpa using this

set_option maxHeartbeats 400000 in
theorem one_calls (w : World) :
    Calls Tryd.prog 28 #[] w fun e w' => e = .returned (.agg (mat fun i => Crc.steps 1 (1#32 <<< i))) ∧ Below w.heap.size w w' := by
  go_enter Tryd.func28, Tryd.ntmps28
  go_wp2
  go_loopw [3] (fun i wr => ∃ k : Nat, k ≤ 31 ∧ i = .int .i64 k ∧ OneLoop w wr k) (fun i _ => 31 - (intOf i).toNat)
  case atStart =>
    refine ⟨0, by omega, rfl, ⟨fun _ => 0, ?_⟩, ?_, ?_⟩
    · rw [heap2_a]; rfl
    · rw [heap2_b]; rfl
    · exact ((Below.refl _ _).alloc (Nat.le_refl _) _).alloc (by simp) _
  case round =>
    obtain ⟨k, hk, rfl, ⟨m', h1⟩, h2, hb⟩ := hrel
    by_cases hlt : k < 31
    · have hlt' : (k : Int) < 31 := by omega
      have hlt2 : (k : Int) < 32 := by omega
      have hc : wr.cell? ⟨w.heap.size + 1, k, none⟩ = some (V32 (oneRows k k)) := by rw [cell_heap h2]; exact mat_at _ (by omega)
      have hf : wr.frozen? ⟨w.heap.size + 1, k, none⟩ = false := frozen_heap h2 k
      have H1 := Lib.hid h1; have H2 := Lib.hid h2; have Hb := Lib.hid hb
      clear h1 h2 hb
      go_wp2
      go_roundw
      case rel =>
        refine ⟨k + 1, by omega, by go_num, ⟨m', ?_⟩, ?_, ?_⟩
        · rw [Below.heap_setCell _ _ _ _ (by simp)]; exact H1.out
        · rw [two_pow_n32, heap_set H2.out, one_next k (by omega)]
        · exact Hb.out.setCell (by simp) _
      case measure => simp [intOf]; omega
    · obtain rfl : k = 31 := by omega
      have hc : wr.cell? ⟨w.heap.size + 1, 31, none⟩ = some (V32 (oneRows 31 31)) := by rw [cell_heap h2]; exact mat_at _ (by omega)
      have hf : wr.frozen? ⟨w.heap.size + 1, 31, none⟩ = false := frozen_heap h2 31
      obtain ⟨ws, hws⟩ : ∃ ws, ws = wr.setCell ⟨w.heap.size + 1, 31, none⟩ (.int .u32 79764919) := ⟨_, rfl⟩
      have e2 : ws.heap[w.heap.size + 1]? = some (.cells (mat fun i => Crc.steps 1 (1#32 <<< i)) 47 (0, 0)) := by
        rw [hws, heap_set h2]; congr 2
      have e1 : ws.heap[w.heap.size]? = some (.cells (mat m') 47 (0, 0)) := by rw [hws]; exact (Below.heap_setCell _ _ _ _ (by simp)).trans h1
      have hl1 : IsRow (wr.setCell ⟨w.heap.size + 1, 31, none⟩ (.int .u32 79764919)) (w.heap.size + 1) 47 32 := ⟨_, by rw [← hws]; exact e2, mat_size _⟩
      have hl2 : rowOf (wr.setCell ⟨w.heap.size + 1, 31, none⟩ (.int .u32 79764919)) (w.heap.size + 1) = mat fun i => Crc.steps 1 (1#32 <<< i) := rowOf_eq (by rw [← hws]; exact e2)
      have hl3 : IsRow (wr.setCell ⟨w.heap.size + 1, 31, none⟩ (.int .u32 79764919)) w.heap.size 47 32 := ⟨_, by rw [← hws]; exact e1, mat_size _⟩
      have hl4 := cells1_mat fun i => Crc.steps 1 (1#32 <<< i)
      have Hw := Lib.hid hws; clear hws
      go_wp2
      refine bodyPost_ret (v := .agg (mat fun i => Crc.steps 1 (1#32 <<< i))) (results_cell_row rfl _ _ (w.heap.size) 47 _ (0, 0) _ rfl (setRow_heap _ _ _ _ _ _ (by rw [← Hw.out]; exact e1)) desc47 rfl (by rw [size47, mat_size])) rfl ⟨rfl, ?_⟩
      exact (hb.setCell (by simp) _).trans (below_setRow (Below.refl _ _) (by omega) _)
end Go.Proofs.YtcjedjknelgagaaDoor
