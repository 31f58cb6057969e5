/- matrix.twice -/
import Derived.Test.YtcjedjknelgagaaDoorTimes
import Derived.Deep.RegionWith
import Derived.Deep.DeepCutAuto
namespace Go.Proofs.YtcjedjknelgagaaDoor
open Go.RowKit
set_option linter.unusedSimpArgs false
set_option linter.unusedVariables false

theorem desc47 : Tryd.prog.underlying 47 = some (.array 32 25) := by kernel_rfl
theorem size47 : (Tryd.prog.info? 47).map (·.size) = some 32 := by kernel_rfl
theorem load_mat {dst : Option Tmp} {ty : TypeId} {pos : String} {af : Array Edge} {gd : Option (Nat × Bool)} {x : Operand} {a : Act} {w : World} {K : Act → World → Prop} {Q : Exit → Act → World → Prop}
    (h : IsRowAt w (a.eval x) 47 32) : Oper.wp Tryd.prog ⟨dst, .load 47 x, ty, pos, af, gd⟩ a w K Q = K (a.put dst (.agg (rowAt w (a.eval x)))) w := op_load_row desc47 rfl size47 h
theorem store_mat {dst : Option Tmp} {ty : TypeId} {pos : String} {af : Array Edge} {gd : Option (Nat × Bool)} {x y : Operand} {a : Act} {w : World} {K : Act → World → Prop} {Q : Exit → Act → World → Prop}
    (h : IsRowAt w (a.eval x) 47 32) (hy : IsAggV (a.eval y) 32) : Oper.wp Tryd.prog ⟨dst, .store 47 x y, ty, pos, af, gd⟩ a w K Q = K (a.put dst undef) (w.setRow (blkOf (a.eval x)) (aggOf (a.eval y))) := op_store_row size47 h hy
theorem step_load_mat {o : Oper} {ops : Array Oper} {a : Act} {w : World} {K : Act → World → Prop} {Q : Exit → Act → World → Prop} {E : Prop} (hl : isLoadOf 47 o = true)
    (h : IsRowAt w (a.eval (loadArg o)) 47 32) : (if Region.wanted o (yielded ops a.tmps) = true then Oper.wp Tryd.prog o a w K Q else E) = K (a.put o.dst (.agg (rowAt w (a.eval (loadArg o))))) w := step_load_row desc47 rfl size47 hl h
attribute [local go_sem ↓] load_mat store_mat step_load_mat
attribute [local go_sem] isLoadOf loadArg isRowAt_ptr rowAt_ptr blkOf_ptr aggOf_agg isAggV_agg
theorem cells1_mat (m : Nat → BitVec 32) : Cells1 (mat m) 32 := ⟨mat_size m, fun v hv => by
  simp [mat] at hv; obtain ⟨i, _, rfl⟩ := hv; rfl⟩

/-- The first k rows are done. -/
def partRows (m : Nat → BitVec 32) (k : Nat) : Nat → BitVec 32 := fun i => if i < k then Crc.comb m (m i) 32 else 0
theorem mat_set (m m' : Nat → BitVec 32) (k : Nat) (v : BitVec 32) (hv : m' k = v) (h : ∀ i, i < 32 → i ≠ k → m' i = m i) : (mat m).setIfInBounds k (V32 v) = mat m' := by
  apply Array.ext_getElem?
  intro i
  rw [Array.getElem?_setIfInBounds]
  by_cases hi : i < 32
  · rw [mat_at m' hi]
    by_cases e : k = i
    · subst e; rw [if_pos rfl, if_pos (by rw [mat_size]; exact hi), hv]
    · rw [if_neg e, mat_at m hi, h i hi (fun h => e h.symm)]
  · rw [Array.getElem?_eq_none (by rw [mat_size]; omega), Array.getElem?_eq_none (by rw [mat_size]; omega)]
    rw [mat_size]
    split
    · rw [if_neg (by omega)]
    · rfl
theorem part_next (m : Nat → BitVec 32) (k : Nat) (hk : k < 32) : (mat (partRows m k)).setIfInBounds k (V32 (Crc.comb m (m k) 32)) = mat (partRows m (k + 1)) := by
  apply mat_set
  · simp [partRows]
  · intro i _ hi; unfold partRows
    by_cases h : i < k
    · rw [if_pos h, if_pos (by omega)]
    · rw [if_neg h, if_neg (by omega)]
theorem part_all (m : Nat → BitVec 32) : mat (partRows m 32) = mat fun i => Crc.comb m (m i) 32 := by
  unfold mat; congr 1

def MatLoop (m : Nat → BitVec 32) (w wr : World) (k : Nat) : Prop :=
  wr.heap[w.heap.size]? = some (.cells (mat m) 47 (0, 0)) ∧ (∃ m', wr.heap[w.heap.size + 1]? = some (.cells (mat m') 47 (0, 0))) ∧
  wr.heap[w.heap.size + 1 + 1]? = some (.cells (mat (partRows m k)) 47 (0, 0)) ∧ Below w.heap.size w wr
theorem MatLoop.next {m : Nat → BitVec 32} {w wr w1 : World} {k : Nat} (hk : k < 32) (h : MatLoop m w wr k) (hb : Below wr.drew.heap.size wr.drew w1) :
    MatLoop m w (w1.setCell ⟨w.heap.size + 1 + 1, k, none⟩ (V32 (Crc.comb m (m k) 32))) (k + 1) := by
  obtain ⟨h1, ⟨m', h2⟩, h3, h4⟩ := h
  have e1 : w1.heap[w.heap.size]? = _ := (hb.block _ (lt_heap h1)).trans h1
  have e2 : w1.heap[w.heap.size + 1]? = _ := (hb.block _ (lt_heap h2)).trans h2
  have e3 : w1.heap[w.heap.size + 1 + 1]? = _ := (hb.block _ (lt_heap h3)).trans h3
  refine ⟨?_, ⟨m', ?_⟩, ?_, ?_⟩
  · rw [Below.heap_setCell _ _ _ _ (by simp; omega)]; exact e1
  · rw [Below.heap_setCell _ _ _ _ (by simp)]; exact e2
  · rw [heap_set e3, part_next m k hk]
  · exact (h4.drew.trans (hb.mono h4.size)).setCell (by simp; omega) _

set_option maxHeartbeats 400000 in
theorem twice_calls (cs : Array Value) (m : Nat → BitVec 32) (w : World) (hc : cs = mat m) :
    Calls Tryd.prog 29 #[.agg cs] w fun e w' => e = .returned (.agg (mat fun i => Crc.comb m (m i) 32)) ∧ Below w.heap.size w w' := by
  have Hc := Lib.hid hc; clear hc
  go_enter Tryd.func29, Tryd.ntmps29
  go_wp2
  go_loopw [5] (fun i wr => ∃ k : Nat, k ≤ 32 ∧ i = .int .i64 k ∧ MatLoop m w wr k) (fun i _ => 32 - (intOf i).toNat)
  case atStart =>
    refine ⟨0, by omega, rfl, ?_, ⟨fun _ => 0, ?_⟩, ?_, ?_⟩
    · rw [heap3_a, Hc.out]
    · rw [heap3_b]; rfl
    · rw [heap3_c]; rfl
    · exact (((Below.refl _ _).alloc (Nat.le_refl _) _).alloc (by simp) _).alloc (by simp; omega) _
  case round =>
    obtain ⟨k, hk, rfl, hm1, ⟨m', hm2⟩, hm3, hb⟩ := hrel
    by_cases hlt : k < 32
    · have hlt' : (k : Int) < 32 := by omega
      have hl1 : IsRow wr.drew w.heap.size 47 32 := ⟨_, hm1, mat_size m⟩
      have hl2 : rowOf wr.drew w.heap.size = mat m := rowOf_eq hm1
      have hc1 : wr.cell? ⟨w.heap.size, k, none⟩ = some (V32 (m k)) := by rw [cell_heap hm1]; exact mat_at m hlt
      have s1 := lt_heap hm3
      have Hm1 := Lib.hid hm1
      have Hm2 := Lib.hid hm2
      have Hm3 := Lib.hid hm3
      have Hb := Lib.hid hb
      clear hm1 hm2 hm3 hb
      go_wp2
      go_region_with (go_at_call 30; refine (times_calls _ m _ _ rfl).mono ?_; rintro e w1 ⟨rfl, hb1⟩; have hc3 : w1.cell? ⟨w.heap.size + 1 + 1, k, none⟩ = some (V32 (partRows m k k)) := (hb1.cell (p := ⟨w.heap.size + 1 + 1, k, none⟩) (by exact s1)).trans (by rw [World.cell?_drew, cell_heap Hm3.out]; exact mat_at _ hlt); have hf3 : w1.frozen? ⟨w.heap.size + 1 + 1, k, none⟩ = false := (hb1.frozen (p := ⟨w.heap.size + 1 + 1, k, none⟩) (by exact s1)).trans (frozen_heap Hm3.out k))
      all_goals
        go_wp2
        go_roundw
        case rel => exact ⟨k + 1, by omega, by go_num, MatLoop.next hlt ⟨Hm1.out, ⟨m', Hm2.out⟩, Hm3.out, Hb.out⟩ hb1⟩
        case measure => simp [intOf]; omega
    · obtain rfl : k = 32 := by omega
      have hl1 : IsRow wr (w.heap.size + 1 + 1) 47 32 := ⟨_, hm3, mat_size _⟩
      have hl2 : rowOf wr (w.heap.size + 1 + 1) = mat (partRows m 32) := rowOf_eq hm3
      have hl3 : IsRow wr (w.heap.size + 1) 47 32 := ⟨_, hm2, mat_size _⟩
      have hl4 := cells1_mat (partRows m 32)
      go_wp2
      refine bodyPost_ret (v := .agg (mat (partRows m 32))) (results_cell_row rfl _ _ (w.heap.size + 1) 47 _ (0, 0) _ rfl (setRow_heap _ _ _ _ _ _ hm2) desc47 rfl (by rw [size47, mat_size])) rfl ⟨by rw [part_all], ?_⟩
      exact hb.trans (below_setRow (Below.refl _ _) (by omega) _)
end Go.Proofs.YtcjedjknelgagaaDoor
