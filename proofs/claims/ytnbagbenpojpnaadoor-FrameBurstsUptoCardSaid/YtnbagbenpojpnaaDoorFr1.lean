/- frame.kind, frame.sum, frame.headOf, pithref3.four -/
import Derived.Test.YtnbagbenpojpnaaDoorSums
import Derived.Test.YtnbagbenpojpnaaDoorFrameM
import Derived.Deep.RegionLaw
namespace Go.Proofs.YtnbagbenpojpnaaDoor
open Go.RowKit
set_option linter.unusedSimpArgs false
set_option linter.unusedVariables false

theorem desc4 : Tryd.prog.underlying 61 = some (.array 4 5) := by kernel_rfl
theorem size4 : (Tryd.prog.info? 61).map (·.size) = some 4 := by kernel_rfl
theorem desc8 : Tryd.prog.underlying 59 = some (.array 8 5) := by kernel_rfl
theorem size8 : (Tryd.prog.info? 59).map (·.size) = some 8 := by kernel_rfl
section
variable {dst : Option Tmp} {ty : TypeId} {pos : String} {af : Array Edge} {gd : Option (Nat × Bool)} {x y : Operand} {a : Act} {w : World} {K : Act → World → Prop} {Q : Exit → Act → World → Prop}
theorem load4 (h : IsRowAt w (a.eval x) 61 4) : Oper.wp Tryd.prog ⟨dst, .load 61 x, ty, pos, af, gd⟩ a w K Q = K (a.put dst (.agg (rowAt w (a.eval x)))) w := op_load_row desc4 rfl size4 h
theorem load8 (h : IsRowAt w (a.eval x) 59 8) : Oper.wp Tryd.prog ⟨dst, .load 59 x, ty, pos, af, gd⟩ a w K Q = K (a.put dst (.agg (rowAt w (a.eval x)))) w := op_load_row desc8 rfl size8 h
theorem store4 (h : IsRowAt w (a.eval x) 61 4) (hy : IsAggV (a.eval y) 4) : Oper.wp Tryd.prog ⟨dst, .store 61 x y, ty, pos, af, gd⟩ a w K Q = K (a.put dst undef) (w.setRow (blkOf (a.eval x)) (aggOf (a.eval y))) := op_store_row size4 h hy
theorem store8 (h : IsRowAt w (a.eval x) 59 8) (hy : IsAggV (a.eval y) 8) : Oper.wp Tryd.prog ⟨dst, .store 59 x y, ty, pos, af, gd⟩ a w K Q = K (a.put dst undef) (w.setRow (blkOf (a.eval x)) (aggOf (a.eval y))) := op_store_row size8 h hy
end
/-- A list of bytes as an array's cells. -/
def arr (bs : List (BitVec 8)) : Array Value := (bs.map V8).toArray
theorem arr_cells (bs : List (BitVec 8)) : Cells1 (arr bs) bs.length := ⟨by simp [arr], fun v hv => by
  simp [arr] at hv; obtain ⟨b, _, rfl⟩ := hv; rfl⟩
theorem arr_size (bs : List (BitVec 8)) : (arr bs).size = bs.length := by simp [arr]
attribute [local go_sem ↓] n32_shl n32_shr load4 load8 store4 store8
attribute [local go_sem] u32_signed n32to8 isLoadOf loadArg isRowAt_ptr rowAt_ptr blkOf_ptr aggOf_agg isAggV_agg isRow_alloc_new

/-- Is it a frame's kind? -/
def isK (k : Int) : Bool := k == 1 || k == 2 || k == 3
theorem kind_calls (k : Int) (w : World) :
    Calls Tryd.prog 28 #[.int .i64 k] w fun e w' => e = .returned (.bool (isK k)) ∧ w = w' := by
  go_enter Tryd.func28, Tryd.ntmps28
  go_wp2
  all_goals (go_ret; refine ⟨?_, rfl⟩)
  · obtain rfl : k = 1 := by assumption
    rfl
  · obtain rfl : k = 2 := by assumption
    rfl
  · rfl
set_option maxHeartbeats 400000 in
theorem sum4_calls (A : Option Addr) (n cap B : Nat) (bs : List (BitVec 8)) (w : World) (ht : TabIn w) (hn : n = bs.length) (hm : n ≤ maxLen) (hr : Rd w B A (bs.map V8)) (hB : B ≤ w.heap.size) :
    Calls Tryd.prog 30 #[.slice A n cap] w fun e w' => e = .returned (.agg (arr (Crc.be (Crc.sum bs)))) ∧ Below w.heap.size w w' := by
  have Ht := Lib.hid ht; have Hn := Lib.hid hn; have Hr := Lib.hid hr
  clear ht hn hr
  go_enter Tryd.func30, Tryd.ntmps30
  go_wp2_with fail
  have hb1 : Below w.heap.size w (w.alloc (.cells #[.int .u8 0, .int .u8 0, .int .u8 0, .int .u8 0] 61)) := (Below.refl _ _).alloc (Nat.le_refl _) _
  refine (csum_calls A n cap B bs _ (Ht.out.below hb1) Hn.out hm (Hr.out.below hb1 hB)).mono ?_
  rintro e w' ⟨rfl, rfl⟩
  have hc : ∀ s : BitVec 32, Cells1 #[V8 (BitVec.setWidth 8 (s >>> 24)), V8 (BitVec.setWidth 8 (s >>> 16)), V8 (BitVec.setWidth 8 (s >>> 8)), V8 (BitVec.setWidth 8 s)] 4 := fun (s : BitVec 32) => arr_cells (Crc.be s)
  go_wp2_with fail
  refine bodyPost_ret (v := .agg (arr (Crc.be (Crc.sum bs)))) (results_cell_row rfl _ _ w.heap.size 61 _ (0, 0) _ rfl (setRow_heap _ _ _ _ _ _ (heap_alloc_new _ _)) desc4 rfl (by rw [size4]; rfl)) rfl ⟨rfl, ?_⟩
  exact hb1.trans (below_setRow (Below.refl _ _) (Nat.le_refl _) _)

theorem sizeU8 : (Tryd.prog.info? 5).map (fun x => x.size) = some 1 := by kernel_rfl
theorem rd_block {w : World} {g : Nat} {cs : Array Value} {t : TypeId} {fr : Nat × Nat} {vs : List Value} (h : w.heap[g]? = some (.cells cs t fr)) (hv : ∀ (i : Nat) (v : Value), vs[i]? = some v → cs[i]? = some v) : Rd w (g + 1) (some ⟨g, 0, none⟩) vs :=
  fun i v hi => ⟨g, 0, rfl, by omega, by rw [Nat.zero_add, cell_heap h]; exact hv i v hi⟩
theorem heap2_a (w : World) (A B : Obj) : ((w.alloc A).alloc B).heap[w.heap.size]? = some A := by
  rw [Below.heap_alloc _ _ _ (by simp), heap_alloc_new]
theorem heap2_b (w : World) (A B : Obj) : ((w.alloc A).alloc B).heap[w.heap.size + 1]? = some B := by
  have := heap_alloc_new (w.alloc A) B
  simpa using this
theorem byte_of_nat (n : Nat) : IntKind.u8.wrap (n : Int) = (n8 (BitVec.ofNat 8 n) : Int) := by
  rw [IntKind.wrap_u8']; unfold n8; rw [BitVec.toNat_ofNat]; omega
theorem byte_small (n : Nat) (h : n < 256) : (n : Int) = (n8 (BitVec.ofNat 8 n) : Int) := by
  unfold n8; rw [BitVec.toNat_ofNat, Nat.mod_eq_of_lt (by omega)]
set_option maxHeartbeats 400000 in
theorem head_calls (k : BitVec 8) (ki : Int) (n : Nat) (w : World) (hk : ki = (n8 k : Int)) (hn : n ≤ 65535) (ht : TabIn w) :
    Calls Tryd.prog 29 #[.int .i64 ki, .int .i64 (n : Int)] w fun e w' => e = .returned (.agg (arr (Fr.head k n))) ∧ Below w.heap.size w w' := by
  subst hk
  have Ht := Lib.hid ht; clear ht
  have h1 : IntKind.u8.wrap (n8 k : Int) = (n8 k : Int) := wrap_u8_toNat k
  have hq : (n : Int) / 256 = (n8 (BitVec.ofNat 8 (n / 256)) : Int) := by rw [← byte_small _ (by omega)]; simp
  have h2 : IntKind.u8.wrap (n8 (BitVec.ofNat 8 (n / 256)) : Int) = (n8 (BitVec.ofNat 8 (n / 256)) : Int) := wrap_u8_toNat _
  have h3 := byte_of_nat n
  go_enter Tryd.func29, Tryd.ntmps29
  go_wp2_with fail
  have hal : Below w.heap.size w ((w.alloc (.cells #[.int .u8 0, .int .u8 0, .int .u8 0, .int .u8 0, .int .u8 0, .int .u8 0, .int .u8 0, .int .u8 0] 59)).alloc (.cells #[.int .u8 112, V8 k, V8 (BitVec.ofNat 8 (n / 256)), V8 (BitVec.ofNat 8 n), .int .u8 0, .int .u8 0, .int .u8 0, .int .u8 0] 59)) :=
    ((Below.refl _ _).alloc (Nat.le_refl _) _).alloc (by simp) _
  have hb1 := heap2_b w (.cells #[.int .u8 0, .int .u8 0, .int .u8 0, .int .u8 0, .int .u8 0, .int .u8 0, .int .u8 0, .int .u8 0] 59) (.cells #[.int .u8 112, V8 k, V8 (BitVec.ofNat 8 (n / 256)), V8 (BitVec.ofNat 8 n), .int .u8 0, .int .u8 0, .int .u8 0, .int .u8 0] 59)
  have hb0 := heap2_a w (.cells #[.int .u8 0, .int .u8 0, .int .u8 0, .int .u8 0, .int .u8 0, .int .u8 0, .int .u8 0, .int .u8 0] 59) (.cells #[.int .u8 112, V8 k, V8 (BitVec.ofNat 8 (n / 256)), V8 (BitVec.ofNat 8 n), .int .u8 0, .int .u8 0, .int .u8 0, .int .u8 0] 59)
  generalize (w.alloc (.cells #[.int .u8 0, .int .u8 0, .int .u8 0, .int .u8 0, .int .u8 0, .int .u8 0, .int .u8 0, .int .u8 0] 59)).alloc (.cells #[.int .u8 112, V8 k, V8 (BitVec.ofNat 8 (n / 256)), V8 (BitVec.ofNat 8 n), .int .u8 0, .int .u8 0, .int .u8 0, .int .u8 0] 59) = w2 at *
  have s2 := lt_heap hb1
  refine (sum4_calls _ 4 8 (w.heap.size + 1 + 1) (Fr.h4 k n) w2 (Ht.out.below hal) rfl (by decide) (rd_block hb1 fun i v hv => by
    match i, hv with
    | 0, hv => exact hv
    | 1, hv => exact hv
    | 2, hv => exact hv
    | 3, hv => exact hv) s2).mono ?_
  rintro e w3 ⟨rfl, hbb⟩
  have e0 := (hbb.block _ (lt_heap hb0)).trans hb0
  have e1 := (hbb.block _ (lt_heap hb1)).trans hb1
  have s3 := lt_heap e1
  have Hal3 := Lib.hid (hal.trans (hbb.mono (by omega)))
  have hcS : Cells1 (arr (Crc.be (Crc.sum (Fr.h4 k n)))) 4 := arr_cells _
  clear hal hbb hb0 hb1
  have H0 := Lib.hid e0; have H1 := Lib.hid e1; clear e0 e1
  go_wp2_with fail
  have g2 : ((w3.alloc (.cells #[.int .u8 0, .int .u8 0, .int .u8 0, .int .u8 0] 61)).setRow w3.heap.size (arr (Crc.be (Crc.sum (Fr.h4 k n))))).heap[w3.heap.size]? = some (.cells (arr (Crc.be (Crc.sum (Fr.h4 k n)))) 61 (0, 0)) :=
    setRow_heap _ _ _ _ _ _ (heap_alloc_new _ _)
  have g1 : ((w3.alloc (.cells #[.int .u8 0, .int .u8 0, .int .u8 0, .int .u8 0] 61)).setRow w3.heap.size (arr (Crc.be (Crc.sum (Fr.h4 k n))))).heap[w.heap.size + 1]? = some (.cells ([.int .u8 112, V8 k, V8 (BitVec.ofNat 8 (n / 256)), V8 (BitVec.ofNat 8 n), .int .u8 0, .int .u8 0, .int .u8 0, .int .u8 0] : List Value).toArray 59 (0, 0)) := by
    rw [setRow_other _ _ _ _ (by omega), Below.heap_alloc _ _ _ s3]; exact H1.out
  have g0 : ((w3.alloc (.cells #[.int .u8 0, .int .u8 0, .int .u8 0, .int .u8 0] 61)).setRow w3.heap.size (arr (Crc.be (Crc.sum (Fr.h4 k n))))).heap[w.heap.size]? = some (.cells (#[.int .u8 0, .int .u8 0, .int .u8 0, .int .u8 0, .int .u8 0, .int .u8 0, .int .u8 0, .int .u8 0]) 59 (0, 0)) := by
    rw [setRow_other _ _ _ _ (by omega), Below.heap_alloc _ _ _ (by omega)]; exact H0.out
  have hb4 : Below w.heap.size w ((w3.alloc (.cells #[.int .u8 0, .int .u8 0, .int .u8 0, .int .u8 0] 61)).setRow w3.heap.size (arr (Crc.be (Crc.sum (Fr.h4 k n))))) :=
    (Hal3.out.alloc (by omega) _).trans (below_setRow (Below.refl _ _) (by omega) _)
  generalize (w3.alloc (.cells #[.int .u8 0, .int .u8 0, .int .u8 0, .int .u8 0] 61)).setRow w3.heap.size (arr (Crc.be (Crc.sum (Fr.h4 k n)))) = w4 at *
  have G0 := Lib.hid g0; have G1 := Lib.hid g1; have G2 := Lib.hid g2; have Hb4 := Lib.hid hb4
  clear g0 g1 g2 hb4 H0 H1 Hal3 hcS
  have Hpos := Lib.hid (show 0 < ((Crc.be (Crc.sum (Fr.h4 k n))).map V8).length → (some ⟨w.heap.size + 1, 4, none⟩ : Option Addr) = some ⟨w.heap.size + 1, 4, none⟩ ∧ ∃ ad, (some ⟨w3.heap.size, 0, none⟩ : Option Addr) = some ad ∧ ∀ (j : Nat) (v : Value), ((Crc.be (Crc.sum (Fr.h4 k n))).map V8)[j]? = some v → w4.drew.cell? (ad.add j) = some v from
    fun _ => ⟨rfl, _, rfl, fun j v hv => by rw [Addr.add_lit, Nat.zero_add, World.cell?_drew, cell_heap G2.out]; simpa [arr] using hv⟩)
  go_region_law (refine step_copy_splice rfl (.tmp 17) (.tmp 18) 22 22 rfl 5 descU8s sizeU8 (some ⟨w.heap.size + 1, 4, none⟩) (some ⟨w3.heap.size, 0, none⟩) 4 4 4 4 (by simp [Act.eval, Act.put]) (by simp [Act.eval, Act.put]) (w.heap.size + 1) 4 _ 59 G1.out ((Crc.be (Crc.sum (Fr.h4 k n))).map V8) rfl Hpos.out (by rw [List.length_map]; exact Nat.le_refl 8) (v8_one _) (w.heap.size + 1) w4.drew (Below.refl _ _) (Nat.le_refl _) ?_; intro w5 hg5 hb5)
  have hg5' : w5.heap[w.heap.size + 1]? = some (.cells (arr (Fr.head k n)) 59 (0, 0)) := hg5.out
  have hg50 : w5.heap[w.heap.size]? = _ := (hb5.block _ (by omega)).trans G0.out
  have Hb5 := Lib.hid (Hb4.out.trans ((Below.refl _ w4).drew.trans (hb5.mono (by omega))))
  have hl1 : IsRow w5 (w.heap.size + 1) 59 8 := ⟨_, hg5', by rw [arr_size]; rfl⟩
  have hl2 : rowOf w5 (w.heap.size + 1) = arr (Fr.head k n) := rowOf_eq hg5'
  have hl3 : IsRow w5 w.heap.size 59 8 := ⟨_, hg50, rfl⟩
  have hl4 : Cells1 (arr (Fr.head k n)) 8 := arr_cells _
  have Hg50 := Lib.hid hg50
  clear hg5 hb5 hg5' hg50
  go_wp2_with fail
  refine bodyPost_ret (v := .agg (arr (Fr.head k n))) (results_cell_row rfl _ _ w.heap.size 59 _ (0, 0) _ rfl (setRow_heap _ _ _ _ _ _ Hg50.out) desc8 rfl (by rw [size8, arr_size]; rfl)) rfl ⟨rfl, ?_⟩
  exact Hb5.out.trans (below_setRow (Below.refl _ _) (Nat.le_refl _) _)
end Go.Proofs.YtnbagbenpojpnaaDoor
