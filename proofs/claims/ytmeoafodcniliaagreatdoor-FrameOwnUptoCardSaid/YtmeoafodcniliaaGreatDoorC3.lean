/- from chapter 3: what is wanted here -/
import Derived.Test.YtmeoafodcniliaaGreatDoorSums
import Derived.Test.YtmeoafodcniliaaGreatDoorFrameM
import Derived.Deep.RegionLaw
import Derived.Test.YtmeoafodcniliaaGreatDoorInv
import Derived.Deep.DeepCutAuto
import Derived.BigQuiet
import Derived.Deep.RegionHeld3
import Derived.Deep.MidRow
import Derived.Laws.Cover3
import Derived.ChangeKeysEq
import Derived.Test.YtmeoafodcniliaaGreatDoorFrameN
import Derived.Lib.SmallJoins
import Derived.ProofKit
import Derived.LaidMore
import Derived.OpenShut
import Derived.ShutString
import Derived.ChangeOld
import Derived.Stop.Joined
import Derived.Lib.LaidTab
import Derived.Deep.SlicePairs
import Derived.Test.YtmeoafodcniliaaGreatDoorRows
namespace Go.Proofs.YtmeoafodcniliaaGreatDoor
open Go.RowKit
set_option linter.unusedSimpArgs false
set_option linter.unusedVariables false
set_option maxRecDepth 20000
theorem desc4 : Tryz.prog.underlying 147 = some (.array 4 5) := by kernel_rfl
theorem size4 : (Tryz.prog.info? 147).map (·.size) = some 4 := by kernel_rfl
theorem desc8 : Tryz.prog.underlying 145 = some (.array 8 5) := by kernel_rfl
theorem size8 : (Tryz.prog.info? 145).map (·.size) = some 8 := by kernel_rfl
section
variable {dst : Option Tmp} {ty : TypeId} {pos : String} {af : Array Edge} {gd : Option (Nat × Bool)} {x y : Operand} {a : Act} {w : World} {K : Act → World → Prop} {Q : Exit → Act → World → Prop}
theorem load4 (h : IsRowAt w (a.eval x) 147 4) : Oper.wp Tryz.prog ⟨dst, .load 147 x, ty, pos, af, gd⟩ a w K Q = K (a.put dst (.agg (rowAt w (a.eval x)))) w := op_load_row desc4 rfl size4 h
theorem load8 (h : IsRowAt w (a.eval x) 145 8) : Oper.wp Tryz.prog ⟨dst, .load 145 x, ty, pos, af, gd⟩ a w K Q = K (a.put dst (.agg (rowAt w (a.eval x)))) w := op_load_row desc8 rfl size8 h
theorem store4 (h : IsRowAt w (a.eval x) 147 4) (hy : IsAggV (a.eval y) 4) : Oper.wp Tryz.prog ⟨dst, .store 147 x y, ty, pos, af, gd⟩ a w K Q = K (a.put dst undef) (w.setRow (blkOf (a.eval x)) (aggOf (a.eval y))) := op_store_row size4 h hy
theorem store8 (h : IsRowAt w (a.eval x) 145 8) (hy : IsAggV (a.eval y) 8) : Oper.wp Tryz.prog ⟨dst, .store 145 x y, ty, pos, af, gd⟩ a w K Q = K (a.put dst undef) (w.setRow (blkOf (a.eval x)) (aggOf (a.eval y))) := op_store_row size8 h hy
end
/-- A list of bytes as an array's cells. -/
def arr (bs : List (BitVec 8)) : Array Value := (bs.map V8).toArray
theorem arr_cells (bs : List (BitVec 8)) : Cells1 (arr bs) bs.length := ⟨by simp [arr], fun v hv => by
  simp [arr] at hv; obtain ⟨b, _, rfl⟩ := hv; rfl⟩
theorem arr_size (bs : List (BitVec 8)) : (arr bs).size = bs.length := by simp [arr]
attribute [local go_sem ↓] n32_shl n32_shr load4 load8 store4 store8
attribute [local go_sem] u32_signed n32to8 isLoadOf loadArg isRowAt_ptr rowAt_ptr blkOf_ptr aggOf_agg isAggV_agg isRow_alloc_new
/-- Is it a frame's kind? -/
def isK (k : Int) : Bool := k == 1 || k == 2 || k == 3
theorem kind_calls (k : Int) (w : World) :
    Calls Tryz.prog 76 #[.int .i64 k] w fun e w' => e = .returned (.bool (isK k)) ∧ w = w' := by
  go_enter Tryz.func76, Tryz.ntmps76
  go_wp2
  all_goals (go_ret; refine ⟨?_, rfl⟩)
  · obtain rfl : k = 1 := by assumption
    rfl
  · obtain rfl : k = 2 := by assumption
    rfl
  · rfl
set_option maxHeartbeats 400000 in
theorem sum4_calls (A : Option Addr) (n cap B : Nat) (bs : List (BitVec 8)) (w : World) (ht : TabIn w) (hn : n = bs.length) (hm : n ≤ maxLen) (hr : Rd w B A (bs.map V8)) (hB : B ≤ w.heap.size) :
    Calls Tryz.prog 78 #[.slice A n cap] w fun e w' => e = .returned (.agg (arr (Crc.be (Crc.sum bs)))) ∧ Below w.heap.size w w' := by
  have Ht := Lib.hid ht; have Hn := Lib.hid hn; have Hr := Lib.hid hr
  clear ht hn hr
  go_enter Tryz.func78, Tryz.ntmps78
  go_wp2_with fail
  have hb1 : Below w.heap.size w (w.alloc (.cells #[.int .u8 0, .int .u8 0, .int .u8 0, .int .u8 0] 147)) := (Below.refl _ _).alloc (Nat.le_refl _) _
  refine (csum_calls A n cap B bs _ (Ht.out.below hb1) Hn.out hm (Hr.out.below hb1 hB)).mono ?_
  rintro e w' ⟨rfl, rfl⟩
  have hc : ∀ s : BitVec 32, Cells1 #[V8 (BitVec.setWidth 8 (s >>> 24)), V8 (BitVec.setWidth 8 (s >>> 16)), V8 (BitVec.setWidth 8 (s >>> 8)), V8 (BitVec.setWidth 8 s)] 4 := fun (s : BitVec 32) => arr_cells (Crc.be s)
  go_wp2_with fail
  refine bodyPost_ret (v := .agg (arr (Crc.be (Crc.sum bs)))) (results_cell_row rfl _ _ w.heap.size 147 _ (0, 0) _ rfl (setRow_heap _ _ _ _ _ _ (heap_alloc_new _ _)) desc4 rfl (by rw [size4]; rfl)) rfl ⟨rfl, ?_⟩
  exact hb1.trans (below_setRow (Below.refl _ _) (Nat.le_refl _) _)
theorem sizeU8 : (Tryz.prog.info? 5).map (fun x => x.size) = some 1 := by kernel_rfl
theorem rd_block {w : World} {g : Nat} {cs : Array Value} {t : TypeId} {fr : Nat × Nat} {vs : List Value} (h : w.heap[g]? = some (.cells cs t fr)) (hv : ∀ (i : Nat) (v : Value), vs[i]? = some v → cs[i]? = some v) : Rd w (g + 1) (some ⟨g, 0, none⟩) vs :=
  fun i v hi => ⟨g, 0, rfl, by omega, by rw [Nat.zero_add, cell_heap h]; exact hv i v hi⟩
theorem heap2_a (w : World) (A B : Obj) : ((w.alloc A).alloc B).heap[w.heap.size]? = some A := by
  rw [Below.heap_alloc _ _ _ (by simp), heap_alloc_new]
theorem heap2_b (w : World) (A B : Obj) : ((w.alloc A).alloc B).heap[w.heap.size + 1]? = some B := by
  have := heap_alloc_new (w.alloc A) B
  simpa using this
theorem byte_of_nat (n : Nat) : IntKind.u8.wrap (n : Int) = (n8 (BitVec.ofNat 8 n) : Int) := by
  rw [IntKind.wrap_u8']; unfold n8; rw [BitVec.toNat_ofNat]; omega
theorem byte_small (n : Nat) (h : n < 256) : (n : Int) = (n8 (BitVec.ofNat 8 n) : Int) := by
  unfold n8; rw [BitVec.toNat_ofNat, Nat.mod_eq_of_lt (by omega)]
set_option maxHeartbeats 400000 in
theorem head_calls (k : BitVec 8) (ki : Int) (n : Nat) (w : World) (hk : ki = (n8 k : Int)) (hn : n ≤ 65535) (ht : TabIn w) :
    Calls Tryz.prog 77 #[.int .i64 ki, .int .i64 (n : Int)] w fun e w' => e = .returned (.agg (arr (Fr.head k n))) ∧ Below w.heap.size w w' := by
  subst hk
  have Ht := Lib.hid ht; clear ht
  have h1 : IntKind.u8.wrap (n8 k : Int) = (n8 k : Int) := wrap_u8_toNat k
  have hq : (n : Int) / 256 = (n8 (BitVec.ofNat 8 (n / 256)) : Int) := by rw [← byte_small _ (by omega)]; simp
  have h2 : IntKind.u8.wrap (n8 (BitVec.ofNat 8 (n / 256)) : Int) = (n8 (BitVec.ofNat 8 (n / 256)) : Int) := wrap_u8_toNat _
  have h3 := byte_of_nat n
  go_enter Tryz.func77, Tryz.ntmps77
  go_wp2_with fail
  have hal : Below w.heap.size w ((w.alloc (.cells #[.int .u8 0, .int .u8 0, .int .u8 0, .int .u8 0, .int .u8 0, .int .u8 0, .int .u8 0, .int .u8 0] 145)).alloc (.cells #[.int .u8 112, V8 k, V8 (BitVec.ofNat 8 (n / 256)), V8 (BitVec.ofNat 8 n), .int .u8 0, .int .u8 0, .int .u8 0, .int .u8 0] 145)) :=
    ((Below.refl _ _).alloc (Nat.le_refl _) _).alloc (by simp) _
  have hb1 := heap2_b w (.cells #[.int .u8 0, .int .u8 0, .int .u8 0, .int .u8 0, .int .u8 0, .int .u8 0, .int .u8 0, .int .u8 0] 145) (.cells #[.int .u8 112, V8 k, V8 (BitVec.ofNat 8 (n / 256)), V8 (BitVec.ofNat 8 n), .int .u8 0, .int .u8 0, .int .u8 0, .int .u8 0] 145)
  have hb0 := heap2_a w (.cells #[.int .u8 0, .int .u8 0, .int .u8 0, .int .u8 0, .int .u8 0, .int .u8 0, .int .u8 0, .int .u8 0] 145) (.cells #[.int .u8 112, V8 k, V8 (BitVec.ofNat 8 (n / 256)), V8 (BitVec.ofNat 8 n), .int .u8 0, .int .u8 0, .int .u8 0, .int .u8 0] 145)
  generalize (w.alloc (.cells #[.int .u8 0, .int .u8 0, .int .u8 0, .int .u8 0, .int .u8 0, .int .u8 0, .int .u8 0, .int .u8 0] 145)).alloc (.cells #[.int .u8 112, V8 k, V8 (BitVec.ofNat 8 (n / 256)), V8 (BitVec.ofNat 8 n), .int .u8 0, .int .u8 0, .int .u8 0, .int .u8 0] 145) = w2 at *
  have s2 := lt_heap hb1
  refine (sum4_calls _ 4 8 (w.heap.size + 1 + 1) (Fr.h4 k n) w2 (Ht.out.below hal) rfl (by decide) (rd_block hb1 fun i v hv => by
    match i, hv with
    | 0, hv => exact hv
    | 1, hv => exact hv
    | 2, hv => exact hv
    | 3, hv => exact hv) s2).mono ?_
  rintro e w3 ⟨rfl, hbb⟩
  have e0 := (hbb.block _ (lt_heap hb0)).trans hb0
  have e1 := (hbb.block _ (lt_heap hb1)).trans hb1
  have s3 := lt_heap e1
  have Hal3 := Lib.hid (hal.trans (hbb.mono (by omega)))
  have hcS : Cells1 (arr (Crc.be (Crc.sum (Fr.h4 k n)))) 4 := arr_cells _
  clear hal hbb hb0 hb1
  have H0 := Lib.hid e0; have H1 := Lib.hid e1; clear e0 e1
  go_wp2_with fail
  have g2 : ((w3.alloc (.cells #[.int .u8 0, .int .u8 0, .int .u8 0, .int .u8 0] 147)).setRow w3.heap.size (arr (Crc.be (Crc.sum (Fr.h4 k n))))).heap[w3.heap.size]? = some (.cells (arr (Crc.be (Crc.sum (Fr.h4 k n)))) 147 (0, 0)) :=
    setRow_heap _ _ _ _ _ _ (heap_alloc_new _ _)
  have g1 : ((w3.alloc (.cells #[.int .u8 0, .int .u8 0, .int .u8 0, .int .u8 0] 147)).setRow w3.heap.size (arr (Crc.be (Crc.sum (Fr.h4 k n))))).heap[w.heap.size + 1]? = some (.cells ([.int .u8 112, V8 k, V8 (BitVec.ofNat 8 (n / 256)), V8 (BitVec.ofNat 8 n), .int .u8 0, .int .u8 0, .int .u8 0, .int .u8 0] : List Value).toArray 145 (0, 0)) := by
    rw [setRow_other _ _ _ _ (by omega), Below.heap_alloc _ _ _ s3]; exact H1.out
  have g0 : ((w3.alloc (.cells #[.int .u8 0, .int .u8 0, .int .u8 0, .int .u8 0] 147)).setRow w3.heap.size (arr (Crc.be (Crc.sum (Fr.h4 k n))))).heap[w.heap.size]? = some (.cells (#[.int .u8 0, .int .u8 0, .int .u8 0, .int .u8 0, .int .u8 0, .int .u8 0, .int .u8 0, .int .u8 0]) 145 (0, 0)) := by
    rw [setRow_other _ _ _ _ (by omega), Below.heap_alloc _ _ _ (by omega)]; exact H0.out
  have hb4 : Below w.heap.size w ((w3.alloc (.cells #[.int .u8 0, .int .u8 0, .int .u8 0, .int .u8 0] 147)).setRow w3.heap.size (arr (Crc.be (Crc.sum (Fr.h4 k n))))) :=
    (Hal3.out.alloc (by omega) _).trans (below_setRow (Below.refl _ _) (by omega) _)
  generalize (w3.alloc (.cells #[.int .u8 0, .int .u8 0, .int .u8 0, .int .u8 0] 147)).setRow w3.heap.size (arr (Crc.be (Crc.sum (Fr.h4 k n)))) = w4 at *
  have G0 := Lib.hid g0; have G1 := Lib.hid g1; have G2 := Lib.hid g2; have Hb4 := Lib.hid hb4
  clear g0 g1 g2 hb4 H0 H1 Hal3 hcS
  have Hpos := Lib.hid (show 0 < ((Crc.be (Crc.sum (Fr.h4 k n))).map V8).length → (some ⟨w.heap.size + 1, 4, none⟩ : Option Addr) = some ⟨w.heap.size + 1, 4, none⟩ ∧ ∃ ad, (some ⟨w3.heap.size, 0, none⟩ : Option Addr) = some ad ∧ ∀ (j : Nat) (v : Value), ((Crc.be (Crc.sum (Fr.h4 k n))).map V8)[j]? = some v → w4.drew.cell? (ad.add j) = some v from
    fun _ => ⟨rfl, _, rfl, fun j v hv => by rw [Addr.add_lit, Nat.zero_add, World.cell?_drew, cell_heap G2.out]; simpa [arr] using hv⟩)
  go_region_law (refine step_copy_splice rfl (.tmp 17) (.tmp 18) 22 22 rfl 5 descU8s sizeU8 (some ⟨w.heap.size + 1, 4, none⟩) (some ⟨w3.heap.size, 0, none⟩) 4 4 4 4 (by simp [Act.eval, Act.put]) (by simp [Act.eval, Act.put]) (w.heap.size + 1) 4 _ 145 G1.out ((Crc.be (Crc.sum (Fr.h4 k n))).map V8) rfl Hpos.out (by rw [List.length_map]; exact Nat.le_refl 8) (v8_one _) (w.heap.size + 1) w4.drew (Below.refl _ _) (Nat.le_refl _) ?_; intro w5 hg5 hb5)
  have hg5' : w5.heap[w.heap.size + 1]? = some (.cells (arr (Fr.head k n)) 145 (0, 0)) := hg5.out
  have hg50 : w5.heap[w.heap.size]? = _ := (hb5.block _ (by omega)).trans G0.out
  have Hb5 := Lib.hid (Hb4.out.trans ((Below.refl _ w4).drew.trans (hb5.mono (by omega))))
  have hl1 : IsRow w5 (w.heap.size + 1) 145 8 := ⟨_, hg5', by rw [arr_size]; rfl⟩
  have hl2 : rowOf w5 (w.heap.size + 1) = arr (Fr.head k n) := rowOf_eq hg5'
  have hl3 : IsRow w5 w.heap.size 145 8 := ⟨_, hg50, rfl⟩
  have hl4 : Cells1 (arr (Fr.head k n)) 8 := arr_cells _
  have Hg50 := Lib.hid hg50
  clear hg5 hb5 hg5' hg50
  go_wp2_with fail
  refine bodyPost_ret (v := .agg (arr (Fr.head k n))) (results_cell_row rfl _ _ w.heap.size 145 _ (0, 0) _ rfl (setRow_heap _ _ _ _ _ _ Hg50.out) desc8 rfl (by rw [size8, arr_size]; rfl)) rfl ⟨rfl, ?_⟩
  exact Hb5.out.trans (below_setRow (Below.refl _ _) (Nat.le_refl _) _)
attribute [local go_sem ↓] load4 load8 store4 store8
attribute [local go_sem] isLoadOf loadArg isRowAt_ptr rowAt_ptr blkOf_ptr aggOf_agg isAggV_agg isRow_alloc_new
/-- A frame as a value. -/
abbrev VF (k : Int) (A : Option Addr) (n cap : Nat) : Value := .agg #[.int .i64 k, .slice A n cap]
set_option maxHeartbeats 1000000 in
theorem encode_bad (k : Int) (A : Option Addr) (n cap : Nat) (w : World) (hk : isK k = false) :
    Calls Tryz.prog 27 #[VF k A n cap] w fun e w' => e = .returned (.tuple #[.slice none 0 0, .int .i64 30]) ∧ Below w.heap.size w w' := by
  go_enter Tryz.func27, Tryz.ntmps27
  go_wp2_with (go_at_call 76; refine (kind_calls k _).mono ?_; rintro e w' ⟨rfl, rfl⟩)
  go_ret2
  exact ⟨rfl, (Below.refl _ _).alloc (Nat.le_refl _) _⟩
set_option maxHeartbeats 1000000 in
theorem encode_long (k : Int) (A : Option Addr) (n cap : Nat) (w : World) (hk : isK k = true) (hn : 1024 < n) :
    Calls Tryz.prog 27 #[VF k A n cap] w fun e w' => e = .returned (.tuple #[.slice none 0 0, .int .i64 31]) ∧ Below w.heap.size w w' := by
  have hn' : (1024 : Int) < (n : Int) := by omega
  go_enter Tryz.func27, Tryz.ntmps27
  go_wp2_with (go_at_call 76; refine (kind_calls k _).mono ?_; rintro e w' ⟨rfl, rfl⟩)
  go_ret2
  exact ⟨rfl, (Below.refl _ _).alloc (Nat.le_refl _) _⟩
theorem tabIn_of {w w' : World} (h : TabIn w) (hb : Below w.heap.size w w') : TabIn w' := h.below hb
/-- What stands when a frame's three parts are made. -/
def EncR (w1 : World) (hd sm : List (BitVec 8)) (s6 s7 : Value) (w : World) : Prop :=
  ∃ g6 g7, s6 = .pointer (some ⟨g6, 0, none⟩) ∧ s7 = .pointer (some ⟨g7, 0, none⟩) ∧ w1.heap.size ≤ g6 ∧ w1.heap.size ≤ g7 ∧
    w.heap[g6]? = some (.cells (arr hd) 145 (0, 0)) ∧ w.heap[g7]? = some (.cells (arr sm) 147 (0, 0)) ∧ Below w1.heap.size w1 w
/-- The three parts of a frame being made, in any order: what each operation has left. -/
structure PhiE (w1 : World) (g : Nat) (k : Int) (A : Option Addr) (n cap : Nat) (hd sm : List (BitVec 8)) (L : Nat → Bool) (v6 v7 v21 v22 v23 v24 v25 v26 v27 : Value) (w' : World) : Prop where
  bel : Below w1.heap.size w1 w'
  h0 : L 0 = true → v21 = .pointer (some ⟨g, 0, none⟩)
  h1 : L 1 = true → v22 = .int .i64 k
  h2 : L 2 = true → v23 = .int .i64 (n : Int)
  h3 : L 3 = true → v24 = .agg (arr hd)
  h4 : L 4 = true → v25 = .pointer (some ⟨g, 1, none⟩)
  h5 : L 5 = true → v26 = .slice A n cap
  h6 : L 6 = true → v27 = .agg (arr sm)
  h7 : L 7 = true → ∃ g6 cs, v6 = .pointer (some ⟨g6, 0, none⟩) ∧ w1.heap.size ≤ g6 ∧ w'.heap[g6]? = some (.cells cs 145 (0, 0)) ∧ cs.size = 8 ∧ (L 9 = true → cs = arr hd)
  h8 : L 8 = true → ∃ g7 cs, v7 = .pointer (some ⟨g7, 0, none⟩) ∧ w1.heap.size ≤ g7 ∧ w'.heap[g7]? = some (.cells cs 147 (0, 0)) ∧ cs.size = 4 ∧ (L 10 = true → cs = arr sm)
  h97 : L 9 = true → L 7 = true
  h108 : L 10 = true → L 8 = true
theorem upd1_ne (L : Nat → Bool) {i j : Nat} (h : j ≠ i) : upd1 L i j = L j := if_neg h
section
variable {w1 : World} {g : Nat} {k : Int} {A : Option Addr} {n cap : Nat} {hd sm : List (BitVec 8)} {L : Nat → Bool} {v6 v7 v21 v22 v23 v24 v25 v26 v27 : Value} {w' w2 : World}
/-- The world goes on, none of the blocks at hand touched. -/
theorem PhiE.go (h : PhiE w1 g k A n cap hd sm L v6 v7 v21 v22 v23 v24 v25 v26 v27 w') (hb : Below w'.heap.size w' w2) : PhiE w1 g k A n cap hd sm L v6 v7 v21 v22 v23 v24 v25 v26 v27 w2 :=
  { h with
    bel := h.bel.trans (hb.mono h.bel.size)
    h7 := fun hl => by obtain ⟨g6, cs, a, b, c, d⟩ := h.h7 hl; exact ⟨g6, cs, a, b, (hb.block _ (lt_heap c)).trans c, d⟩
    h8 := fun hl => by obtain ⟨g6, cs, a, b, c, d⟩ := h.h8 hl; exact ⟨g6, cs, a, b, (hb.block _ (lt_heap c)).trans c, d⟩ }
theorem PhiE.s0 (h : PhiE w1 g k A n cap hd sm L v6 v7 v21 v22 v23 v24 v25 v26 v27 w') : PhiE w1 g k A n cap hd sm (upd1 L 0) v6 v7 (.pointer (some ⟨g, 0, none⟩)) v22 v23 v24 v25 v26 v27 w' :=
  ⟨h.bel, fun _ => rfl, h.h1, h.h2, h.h3, h.h4, h.h5, h.h6, h.h7, h.h8, h.h97, h.h108⟩
theorem PhiE.s1 (h : PhiE w1 g k A n cap hd sm L v6 v7 v21 v22 v23 v24 v25 v26 v27 w') : PhiE w1 g k A n cap hd sm (upd1 L 1) v6 v7 v21 (.int .i64 k) v23 v24 v25 v26 v27 w' :=
  ⟨h.bel, h.h0, fun _ => rfl, h.h2, h.h3, h.h4, h.h5, h.h6, h.h7, h.h8, h.h97, h.h108⟩
theorem PhiE.s2 (h : PhiE w1 g k A n cap hd sm L v6 v7 v21 v22 v23 v24 v25 v26 v27 w') : PhiE w1 g k A n cap hd sm (upd1 L 2) v6 v7 v21 v22 (.int .i64 (n : Int)) v24 v25 v26 v27 w' :=
  ⟨h.bel, h.h0, h.h1, fun _ => rfl, h.h3, h.h4, h.h5, h.h6, h.h7, h.h8, h.h97, h.h108⟩
theorem PhiE.s3 (h : PhiE w1 g k A n cap hd sm L v6 v7 v21 v22 v23 v24 v25 v26 v27 w') (hb : Below w'.heap.size w' w2) : PhiE w1 g k A n cap hd sm (upd1 L 3) v6 v7 v21 v22 v23 (.agg (arr hd)) v25 v26 v27 w2 :=
  have h := h.go hb
  ⟨h.bel, h.h0, h.h1, h.h2, fun _ => rfl, h.h4, h.h5, h.h6, h.h7, h.h8, h.h97, h.h108⟩
theorem PhiE.s4 (h : PhiE w1 g k A n cap hd sm L v6 v7 v21 v22 v23 v24 v25 v26 v27 w') : PhiE w1 g k A n cap hd sm (upd1 L 4) v6 v7 v21 v22 v23 v24 (.pointer (some ⟨g, 1, none⟩)) v26 v27 w' :=
  ⟨h.bel, h.h0, h.h1, h.h2, h.h3, fun _ => rfl, h.h5, h.h6, h.h7, h.h8, h.h97, h.h108⟩
theorem PhiE.s5 (h : PhiE w1 g k A n cap hd sm L v6 v7 v21 v22 v23 v24 v25 v26 v27 w') : PhiE w1 g k A n cap hd sm (upd1 L 5) v6 v7 v21 v22 v23 v24 v25 (.slice A n cap) v27 w' :=
  ⟨h.bel, h.h0, h.h1, h.h2, h.h3, h.h4, fun _ => rfl, h.h6, h.h7, h.h8, h.h97, h.h108⟩
theorem PhiE.s6 (h : PhiE w1 g k A n cap hd sm L v6 v7 v21 v22 v23 v24 v25 v26 v27 w') (hb : Below w'.heap.size w' w2) : PhiE w1 g k A n cap hd sm (upd1 L 6) v6 v7 v21 v22 v23 v24 v25 v26 (.agg (arr sm)) w2 :=
  have h := h.go hb
  ⟨h.bel, h.h0, h.h1, h.h2, h.h3, h.h4, h.h5, fun _ => rfl, h.h7, h.h8, h.h97, h.h108⟩
theorem PhiE.s7 (h : PhiE w1 g k A n cap hd sm L v6 v7 v21 v22 v23 v24 v25 v26 v27 w') (h9 : L 9 = false) (cs : Array Value) (hs : cs.size = 8) : PhiE w1 g k A n cap hd sm (upd1 L 7) (.pointer (some ⟨w'.heap.size, 0, none⟩)) v7 v21 v22 v23 v24 v25 v26 v27 (w'.alloc (.cells cs 145)) :=
  have hg := h.go ((Below.refl _ _).alloc (Nat.le_refl _) (.cells cs 145))
  ⟨hg.bel, hg.h0, hg.h1, hg.h2, hg.h3, hg.h4, hg.h5, hg.h6, fun _ => ⟨_, cs, rfl, h.bel.size, heap_alloc_new _ _, hs, fun hc => by rw [upd1_ne _ (by decide), h9] at hc; cases hc⟩, hg.h8, fun _ => rfl, hg.h108⟩
theorem PhiE.s8 (h : PhiE w1 g k A n cap hd sm L v6 v7 v21 v22 v23 v24 v25 v26 v27 w') (h9 : L 10 = false) (cs : Array Value) (hs : cs.size = 4) : PhiE w1 g k A n cap hd sm (upd1 L 8) v6 (.pointer (some ⟨w'.heap.size, 0, none⟩)) v21 v22 v23 v24 v25 v26 v27 (w'.alloc (.cells cs 147)) :=
  have hg := h.go ((Below.refl _ _).alloc (Nat.le_refl _) (.cells cs 147))
  ⟨hg.bel, hg.h0, hg.h1, hg.h2, hg.h3, hg.h4, hg.h5, hg.h6, hg.h7, fun _ => ⟨_, cs, rfl, h.bel.size, heap_alloc_new _ _, hs, fun hc => by rw [upd1_ne _ (by decide), h9] at hc; cases hc⟩, hg.h97, fun _ => rfl⟩
theorem PhiE.s9 (h : PhiE w1 g k A n cap hd sm L v6 v7 v21 v22 v23 v24 v25 v26 v27 w') (h7 : L 7 = true) (hl : hd.length = 8) : ∃ g6, v6 = .pointer (some ⟨g6, 0, none⟩) ∧ IsRow w' g6 145 8 ∧ PhiE w1 g k A n cap hd sm (upd1 L 9) (.pointer (some ⟨g6, 0, none⟩)) v7 v21 v22 v23 v24 v25 v26 v27 (w'.setRow g6 (arr hd)) := by
  obtain ⟨g6, cs, e, hg, hh, hs, _⟩ := h.h7 h7
  refine ⟨g6, e, ⟨cs, hh, hs⟩, ⟨below_setRow h.bel hg _, h.h0, h.h1, h.h2, h.h3, h.h4, h.h5, h.h6, fun _ => ⟨g6, arr hd, rfl, hg, setRow_heap _ _ _ _ _ _ hh, by rw [arr_size]; exact hl, fun _ => rfl⟩, fun hl8 => ?_, fun _ => h7, h.h108⟩⟩
  obtain ⟨g7, cs7, e7, hg7, hh7, hs7, hc7⟩ := h.h8 hl8
  have hne : g7 ≠ g6 := by
    intro hc; subst hc; rw [hh] at hh7; injection hh7 with hh7; injection hh7 with hh7; subst hh7; omega
  exact ⟨g7, cs7, e7, hg7, by rw [setRow_other _ _ _ _ hne]; exact hh7, hs7, hc7⟩
theorem PhiE.s10 (h : PhiE w1 g k A n cap hd sm L v6 v7 v21 v22 v23 v24 v25 v26 v27 w') (h8 : L 8 = true) (hl : sm.length = 4) : ∃ g7, v7 = .pointer (some ⟨g7, 0, none⟩) ∧ IsRow w' g7 147 4 ∧ PhiE w1 g k A n cap hd sm (upd1 L 10) v6 (.pointer (some ⟨g7, 0, none⟩)) v21 v22 v23 v24 v25 v26 v27 (w'.setRow g7 (arr sm)) := by
  obtain ⟨g7, cs, e, hg, hh, hs, _⟩ := h.h8 h8
  refine ⟨g7, e, ⟨cs, hh, hs⟩, ⟨below_setRow h.bel hg _, h.h0, h.h1, h.h2, h.h3, h.h4, h.h5, h.h6, fun hl7 => ?_, fun _ => ⟨g7, arr sm, rfl, hg, setRow_heap _ _ _ _ _ _ hh, by rw [arr_size]; exact hl, fun _ => rfl⟩, h.h97, fun _ => h8⟩⟩
  obtain ⟨g6, cs6, e6, hg6, hh6, hs6, hc6⟩ := h.h7 hl7
  have hne : g6 ≠ g7 := by
    intro hc; subst hc; rw [hh] at hh6; injection hh6 with hh6; injection hh6 with hh6; subst hh6; omega
  exact ⟨g6, cs6, e6, hg6, by rw [setRow_other _ _ _ _ hne]; exact hh6, hs6, hc6⟩
end
theorem src_of_row {w : World} {g : Nat} {l : List (BitVec 8)} {t : TypeId} {fr : Nat × Nat} (h : w.heap[g]? = some (.cells (arr l) t fr)) {d : Option Addr} :
    0 < (l.map V8).length → d = d ∧ ∃ ad, (some ⟨g, 0, none⟩ : Option Addr) = some ad ∧ ∀ (j : Nat) (v : Value), (l.map V8)[j]? = some v → w.cell? (ad.add j) = some v :=
  fun _ => ⟨rfl, _, rfl, fun j v hv => by rw [Addr.add_lit, Nat.zero_add, cell_heap h]; simpa [arr] using hv⟩
theorem rd_src {w : World} {B : Nat} {A : Option Addr} {vs : List Value} (h : Rd w B A vs) {d : Option Addr} :
    0 < vs.length → d = d ∧ ∃ ad, A = some ad ∧ ∀ (j : Nat) (v : Value), vs[j]? = some v → w.cell? (ad.add j) = some v := fun h0 => by
  obtain ⟨b, off, e, _, _⟩ := h.at_ h0
  exact ⟨rfl, _, e, fun j v hv => rd_news h _ e j v hv⟩
theorem nat_min_l (a b c : Nat) (h1 : a = b) (h2 : b ≤ c) : a = Nat.min b c := by
  rw [h1]; exact (Nat.min_eq_left h2).symm
set_option maxHeartbeats 1000000 in
theorem encode_good (k : Int) (kb : BitVec 8) (A : Option Addr) (n cap B : Nat) (bs : List (BitVec 8)) (w : World) (hk : isK k = true) (hkb : k = (n8 kb : Int)) (hn : n = bs.length) (hm : n ≤ 1024) (hr : Rd w B A (bs.map V8)) (hB : B ≤ w.heap.size) (ht : TabIn w) :
    Calls Tryz.prog 27 #[VF k A n cap] w fun e w' => ∃ A' cap', e = .returned (.tuple #[.slice A' (n + 12) cap', .int .i64 0]) ∧
      w'.ownsRow w.heap.size 5 1 (.slice A' (n + 12) cap') (n + 12) ((Fr.encode kb bs).map V8) ∧ Below w.heap.size w w' := by
  have hmk : ∀ w : World, (Instr.makeSlice 22 (.int .i64 (8 + (n : Int) + 4)) (.int .i64 (8 + (n : Int) + 4))).run Tryz.prog w = .ok (.slice (some ⟨w.heap.size, 0, none⟩) (n + 12) (n + 12)) (w.alloc (.cells (zeros8 (n + 12)) 5)) := fun w => by
    rw [show (8 + (n : Int) + 4) = ((n + 12 : Nat) : Int) by omega]; exact make_u8 _ _ (Nat.le_refl _) (by omega) w
  have Ht := Lib.hid ht; have Hr := Lib.hid hr; have Hn := Lib.hid hn; have Hkb := Lib.hid hkb
  clear ht hr hn hkb
  go_enter Tryz.func27, Tryz.ntmps27
  go_wp2_with (go_at_call 76; refine (kind_calls k _).mono ?_; rintro e w' ⟨rfl, rfl⟩)
  have hb0 := heap2_a w (Obj.cells #[Value.int IntKind.i64 k, Value.slice A n cap] 74) (Obj.cells (zeros8 (n + 12)) 5)
  have hb1 := heap2_b w (Obj.cells #[Value.int IntKind.i64 k, Value.slice A n cap] 74) (Obj.cells (zeros8 (n + 12)) 5)
  have hal : Below w.heap.size w ((w.alloc (Obj.cells #[Value.int IntKind.i64 k, Value.slice A n cap] 74)).alloc (Obj.cells (zeros8 (n + 12)) 5)) :=
    ((Below.refl _ _).alloc (Nat.le_refl _) _).alloc (by simp) _
  generalize (w.alloc (Obj.cells #[Value.int IntKind.i64 k, Value.slice A n cap] 74)).alloc (Obj.cells (zeros8 (n + 12)) 5) = w1 at *
  have s1 := lt_heap hb1
  have Ht1 := Lib.hid (tabIn_of Ht.out hal)
  have Hr1 := Lib.hid ((Hr.out.below hal hB).more (show B ≤ w1.heap.size by omega))
  have hc0 : w1.cell? ⟨w.heap.size, 0, none⟩ = some (.int .i64 k) := by rw [cell_heap hb0]; rfl
  have hc1 : w1.cell? ⟨w.heap.size, 1, none⟩ = some (.slice A n cap) := by rw [cell_heap hb0]; rfl
  have hlt : w.heap.size < w1.heap.size := by omega
  have H1 := Lib.hid hb1; have Hal := Lib.hid hal
  clear hb0 hb1 hal Ht
  go_cut [6, 7] (fun s6 s7 w' => EncR w1 (Fr.head kb n) (Crc.be (Crc.sum bs)) s6 s7 w')
  case first =>
    refine region_inv (fun L a' w' => ∃ v6 v7 v21 v22 v23 v24 v25 v26 v27 : Value, a' = (⟨#[VF k A n cap, .pointer (some ⟨w.heap.size, 0, none⟩), .slice none 0 0, .int .i64 0, .int .i64 (n : Int), .slice (some ⟨w.heap.size + 1, 0, none⟩) (n + 12) (n + 12), v6, v7, .pointer (some ⟨w.heap.size, 0, none⟩), .int .i64 k, .bool true, .bool false, .pointer (some ⟨w.heap.size, 1, none⟩), .slice A n cap, .int .i64 (n : Int), .int .i64 (n : Int), .bool (decide ((1024 : Int) < (n : Int))), .int .i64 (n : Int), .int .i64 (8 + (n : Int)), .int .i64 (8 + (n : Int) + 4), .slice (some ⟨w.heap.size + 1, 0, none⟩) (n + 12) (n + 12), v21, v22, v23, v24, v25, v26, v27, undef, undef, undef, undef, undef, undef, undef, undef, undef, undef, undef, undef, undef, undef, undef], []⟩ : Act) ∧
      PhiE w1 w.heap.size k A n cap (Fr.head kb n) (Crc.be (Crc.sum bs)) L v6 v7 v21 v22 v23 v24 v25 v26 v27 w') (by kernel_rfl) (by kernel_rfl) ?start ?step ?done
    case start =>
      (repeat apply Exists.intro)
      refine ⟨rfl, (Below.refl _ _).drew, ?_, ?_, ?_, ?_, ?_, ?_, ?_, ?_, ?_, ?_, ?_⟩ <;> (intro h; cases h)
    case done =>
      intro L a' w' hUp hR
      obtain ⟨u6, u7, u21, u22, u23, u24, u25, u26, u27, rfl, hR⟩ := hR
      go_wp2_with fail
      go_meet
      obtain ⟨g6, cs, e6, hg6, hh6, _, hc6⟩ := hR.h7 (hUp 7 (by decide))
      obtain ⟨g7, cs7, e7, hg7, hh7, _, hc7⟩ := hR.h8 (hUp 8 (by decide))
      rw [hc6 (hUp 9 (by decide))] at hh6
      rw [hc7 (hUp 10 (by decide))] at hh7
      exact ⟨g6, g7, e6, e7, hg6, hg7, hh6, hh7, hR.bel⟩
    case step =>
      intro L a' w' i o ho hNot hall hR
      obtain ⟨u6, u7, u21, u22, u23, u24, u25, u26, u27, rfl, hR⟩ := hR
      match i, ho, hNot with
      | 0, ho, hNot =>
        have ho' := ho
        simp only [List.getElem?_toArray, List.getElem?_cons_succ, List.getElem?_cons_zero, Option.some.injEq] at ho'
        subst ho'
        clear hall ho
        refine wanted_step rfl (wp_named fun _ hK => ?_)
        go_simp
        refine hK.out _ _ ?_
        (repeat apply Exists.intro)
        refine ⟨rfl, ?_⟩
        exact hR.s0
      | 1, ho, hNot =>
        have ho' := ho
        simp only [List.getElem?_toArray, List.getElem?_cons_succ, List.getElem?_cons_zero, Option.some.injEq] at ho'
        subst ho'
        have hL0 : L 0 = true := hall ⟨0, .data⟩ (by simp) rfl
        clear hall ho
        refine wanted_step rfl (wp_named fun _ hK => ?_)
        have e := hR.h0 hL0; subst e
        have c := (hR.bel.cell (p := ⟨w.heap.size, 0, none⟩) hlt).trans hc0
        go_simp
        refine hK.out _ _ ?_
        (repeat apply Exists.intro)
        refine ⟨rfl, ?_⟩
        exact hR.s1
      | 2, ho, hNot =>
        have ho' := ho
        simp only [List.getElem?_toArray, List.getElem?_cons_succ, List.getElem?_cons_zero, Option.some.injEq] at ho'
        subst ho'
        clear hall ho
        refine wanted_step rfl (wp_named fun _ hK => ?_)
        go_simp
        refine hK.out _ _ ?_
        (repeat apply Exists.intro)
        refine ⟨rfl, ?_⟩
        exact hR.s2
      | 3, ho, hNot =>
        have ho' := ho
        simp only [List.getElem?_toArray, List.getElem?_cons_succ, List.getElem?_cons_zero, Option.some.injEq] at ho'
        subst ho'
        have hL1 : L 1 = true := hall ⟨1, .data⟩ (by simp) rfl
        have hL2 : L 2 = true := hall ⟨2, .data⟩ (by simp) rfl
        clear hall ho
        refine wanted_step rfl (wp_named fun _ hK => ?_)
        have e := hR.h1 hL1; subst e
        have e := hR.h2 hL2; subst e
        go_simp
        refine (head_calls kb k n _ Hkb.out (by omega) (tabIn_of Ht1.out hR.bel)).mono ?_
        rintro e w' ⟨rfl, hb⟩
        go_simp
        refine hK.out _ _ ?_
        (repeat apply Exists.intro)
        refine ⟨rfl, ?_⟩
        exact hR.s3 hb
      | 4, ho, hNot =>
        have ho' := ho
        simp only [List.getElem?_toArray, List.getElem?_cons_succ, List.getElem?_cons_zero, Option.some.injEq] at ho'
        subst ho'
        clear hall ho
        refine wanted_step rfl (wp_named fun _ hK => ?_)
        go_simp
        refine hK.out _ _ ?_
        (repeat apply Exists.intro)
        refine ⟨rfl, ?_⟩
        exact hR.s4
      | 5, ho, hNot =>
        have ho' := ho
        simp only [List.getElem?_toArray, List.getElem?_cons_succ, List.getElem?_cons_zero, Option.some.injEq] at ho'
        subst ho'
        have hL4 : L 4 = true := hall ⟨4, .data⟩ (by simp) rfl
        clear hall ho
        refine wanted_step rfl (wp_named fun _ hK => ?_)
        have e := hR.h4 hL4; subst e
        have c := (hR.bel.cell (p := ⟨w.heap.size, 1, none⟩) hlt).trans hc1
        go_simp
        refine hK.out _ _ ?_
        (repeat apply Exists.intro)
        refine ⟨rfl, ?_⟩
        exact hR.s5
      | 6, ho, hNot =>
        have ho' := ho
        simp only [List.getElem?_toArray, List.getElem?_cons_succ, List.getElem?_cons_zero, Option.some.injEq] at ho'
        subst ho'
        have hL5 : L 5 = true := hall ⟨5, .data⟩ (by simp) rfl
        clear hall ho
        refine wanted_step rfl (wp_named fun _ hK => ?_)
        have e := hR.h5 hL5; subst e
        go_simp
        refine (sum4_calls A n cap w1.heap.size bs _ (tabIn_of Ht1.out hR.bel) Hn.out (by unfold maxLen; omega) (Hr1.out.below hR.bel (Nat.le_refl _)) hR.bel.size).mono ?_
        rintro e w' ⟨rfl, hb⟩
        go_simp
        refine hK.out _ _ ?_
        (repeat apply Exists.intro)
        refine ⟨rfl, ?_⟩
        exact hR.s6 hb
      | 7, ho, hNot =>
        have ho' := ho
        simp only [List.getElem?_toArray, List.getElem?_cons_succ, List.getElem?_cons_zero, Option.some.injEq] at ho'
        subst ho'
        clear hall ho
        refine wanted_step rfl (wp_named fun _ hK => ?_)
        have h9 : L 9 = false := by
          cases h : L 9
          · rfl
          · have := hR.h97 h; rw [hNot] at this; cases this
        go_simp
        refine hK.out _ _ ?_
        (repeat apply Exists.intro)
        refine ⟨rfl, ?_⟩
        exact hR.s7 h9 _ rfl
      | 8, ho, hNot =>
        have ho' := ho
        simp only [List.getElem?_toArray, List.getElem?_cons_succ, List.getElem?_cons_zero, Option.some.injEq] at ho'
        subst ho'
        clear hall ho
        refine wanted_step rfl (wp_named fun _ hK => ?_)
        have h10 : L 10 = false := by
          cases h : L 10
          · rfl
          · have := hR.h108 h; rw [hNot] at this; cases this
        go_simp
        refine hK.out _ _ ?_
        (repeat apply Exists.intro)
        refine ⟨rfl, ?_⟩
        exact hR.s8 h10 _ rfl
      | 9, ho, hNot =>
        have ho' := ho
        simp only [List.getElem?_toArray, List.getElem?_cons_succ, List.getElem?_cons_zero, Option.some.injEq] at ho'
        subst ho'
        have hL7 : L 7 = true := hall ⟨7, .data⟩ (by simp) rfl
        have hL3 : L 3 = true := hall ⟨3, .data⟩ (by simp) rfl
        clear hall ho
        refine wanted_step rfl (wp_named fun _ hK => ?_)
        obtain ⟨g6, rfl, hrow, hR'⟩ := hR.s9 hL7 rfl
        have e := hR.h3 hL3; subst e
        have hc : Cells1 (arr (Fr.head kb n)) 8 := arr_cells _
        go_simp
        refine hK.out _ _ ?_
        (repeat apply Exists.intro)
        refine ⟨rfl, ?_⟩
        exact hR'
      | 10, ho, hNot =>
        have ho' := ho
        simp only [List.getElem?_toArray, List.getElem?_cons_succ, List.getElem?_cons_zero, Option.some.injEq] at ho'
        subst ho'
        have hL8 : L 8 = true := hall ⟨8, .data⟩ (by simp) rfl
        have hL6 : L 6 = true := hall ⟨6, .data⟩ (by simp) rfl
        clear hall ho
        refine wanted_step rfl (wp_named fun _ hK => ?_)
        obtain ⟨g7, rfl, hrow, hR'⟩ := hR.s10 hL8 rfl
        have e := hR.h6 hL6; subst e
        have hc : Cells1 (arr (Crc.be (Crc.sum bs))) 4 := arr_cells _
        go_simp
        refine hK.out _ _ ?_
        (repeat apply Exists.intro)
        refine ⟨rfl, ?_⟩
        exact hR'
      | i + 11, ho, _ => exact absurd ho (by simp)
  case rest =>
    obtain ⟨g6, g7, rfl, rfl, hg6, hg7, hh6, hh7, hbl⟩ := hcut
    have Hh6 := Lib.hid hh6; have Hh7 := Lib.hid hh7; have Hbl := Lib.hid hbl
    obtain ⟨Z, hZ⟩ : ∃ Z : List Value, Z = (zeros8 (n + 12)).toList := ⟨_, rfl⟩
    have hZl : Z.length = n + 12 := by rw [hZ, Array.length_toList, zeros8_size]
    have Hg5 := Lib.hid (show wc.heap[w.heap.size + 1]? = some (.cells Z.toArray 5 (0, 0)) by rw [hZ, Array.toArray_toList]; exact (hbl.block _ s1).trans H1.out)
    have hne6 : g6 ≠ w.heap.size + 1 := by omega
    have hne7 : g7 ≠ w.heap.size + 1 := by omega
    have Hw1 := Lib.hid (Hal.out.trans (hbl.mono (by omega)))
    clear hh6 hh7 hbl
    go_wp2_with (with_reducible (refine wpList_copy_at (o := ⟨some 30, _, _, _, _, _⟩) (cur := Z) (cs := (Fr.head kb n).map V8) (off := 0) (t := 5) rfl (.tmp 28) (.tmp 29) rfl descU8s sizeU8 (dp := some ⟨w.heap.size + 1, 0, none⟩) (sp := some ⟨g6, 0, none⟩) (dLen := n + 12) (dCap := n + 12) (sLen := 8) (sCap := 8) (by simp [Act.eval, Act.put]) (by simp [Act.eval, Act.put]) Hg5.out (nat_min_l _ _ _ (by rw [List.length_map, Fr.head_length]) (by omega)) (src_of_row Hh6.out) (by rw [List.length_map, Fr.head_length]; omega) (v8_one _) ?_); intro w2 hg2 ho2)
    have Hw2 := Lib.hid (Hw1.out.trans (ho2.out.1.mono (by omega)))
    have Hr2 := Lib.hid (Hr.out.below Hw2.out hB)
    have c2 : w2.cell? ⟨w.heap.size, 1, none⟩ = some (.slice A n cap) := (ho2.out.1.cell (p := ⟨w.heap.size, 1, none⟩) (Nat.lt_succ_self _)).trans ((Hbl.out.cell (p := ⟨w.heap.size, 1, none⟩) hlt).trans hc1)
    have Hh72 := Lib.hid ((ho2.out.2 g7 hne7).trans Hh7.out)
    clear Hh7 Hh6 Hbl Hg5 ho2 hc0 hc1
    have h8 : (8 : Int) ≤ (n : Int) + 12 := by omega
    have h8n : (8 : Int) + (n : Int) ≤ (n : Int) + 12 := by omega
    have hl1 : (splice Z 0 ((Fr.head kb n).map V8)).length = n + 12 := by
      rw [length_splice _ _ _ (by rw [List.length_map, Fr.head_length]; omega)]; exact hZl
    have hnl : (bs.map V8).length = n := by rw [List.length_map]; exact Hn.out.symm
    have hl2 : (splice (splice Z 0 ((Fr.head kb n).map V8)) 8 (bs.map V8)).length = n + 12 := by
      rw [length_splice _ _ _ (by rw [hl1, hnl]; omega)]; exact hl1
    have Hl1 := Lib.hid hl1; have Hl2 := Lib.hid hl2; have Hnl := Lib.hid hnl
    clear hl1 hl2 hnl
    go_region_law (refine step_copy_at (g := w.heap.size + 1) (off := 8) (cur := splice Z 0 ((Fr.head kb n).map V8)) (cs := bs.map V8) (t := 5) rfl (.tmp 32) (.tmp 34) rfl descU8s sizeU8 (dp := some ⟨w.heap.size + 1, 8, none⟩) (sp := A) (dLen := n + 4) (dCap := n + 4) (sLen := n) (sCap := cap) (by simp [Act.eval, Act.put]) (by simp [Act.eval, Act.put]) hg2.out (nat_min_l _ _ _ Hnl.out (by omega)) (rd_src (w := w2.drew) Hr2.out) (by rw [Hl1.out, Hnl.out]; omega) (v8_one _) ?_; intro w3 hg3 ho3)
    have Hw3 := Lib.hid (Hw2.out.trans ((Below.refl _ w2).drew.trans (ho3.out.1.mono (by omega))))
    have Hh73 : Hid (w3.heap[g7]? = _) := Lib.hid ((ho3.out.2 g7 hne7).trans Hh72.out)
    clear Hr2 c2 Hh72 Hw2 Hw1 hg2 ho3 h8n
    obtain ⟨m, em⟩ : ∃ m, m = 8 + n := ⟨_, rfl⟩
    have hw8 : IntKind.i64.wrap (8 + (n : Int)) = (m : Int) := by
      rw [em, IntWalk.i64_in _ (by omega)]; omega
    have hq : (m : Int) ≤ (n : Int) + 12 := by omega
    have hq2 : (n + 12 = m) = False := by rw [eq_iff_iff]; constructor <;> intro h <;> first | omega | cases h
    have hq3 : n + 12 - m = 4 := by omega
    have Hem := Lib.hid em
    clear em
    go_wp2_with fail
    go_region_law (refine step_copy_at (g := w.heap.size + 1) (off := m) (cur := splice (splice Z 0 ((Fr.head kb n).map V8)) 8 (bs.map V8)) (cs := (Crc.be (Crc.sum bs)).map V8) (t := 5) rfl (.tmp 39) (.tmp 40) rfl descU8s sizeU8 (dp := some ⟨w.heap.size + 1, m, none⟩) (sp := some ⟨g7, 0, none⟩) (dLen := 4) (dCap := 4) (sLen := 4) (sCap := 4) (by simp [Act.eval, Act.put]) (by simp [Act.eval, Act.put]) hg3.out rfl (src_of_row (w := w3.drew) Hh73.out) (by rw [Hl2.out]; show m + 4 ≤ n + 12; omega) (v8_one _) ?_; intro w4 hg4 ho4)
    have hx : splice (splice (splice Z 0 ((Fr.head kb n).map V8)) 8 (bs.map V8)) m ((Crc.be (Crc.sum bs)).map V8) = (Fr.encode kb bs).map V8 := by
      rw [Hem.out, splice_splice_splice _ _ _ _ 8 n (by rw [List.length_map]; rfl) Hnl.out (by rw [hZl]; show n + 12 = 8 + n + 4; omega), Hn.out]
      simp [Fr.encode]
    rw [hx] at hg4
    have Hw4 := Lib.hid (Hw3.out.trans ((Below.refl _ w3).drew.trans (ho4.out.1.mono (by omega))))
    clear ho4 hg3 Hw3 Hh73 hx
    go_wp2_with fail
    go_ret2
    refine ⟨_, _, rfl, ⟨?_, Or.inr ⟨_, _, _, rfl, by omega, hg4.out, Nat.le_refl _, by unfold maxLen; omega, ?_, ?_⟩⟩, Hw4.out⟩
    · rw [List.length_map, Fr.encode_length, ← Hn.out]; omega
    · rw [List.size_toArray, List.length_map, Fr.encode_length, ← Hn.out]; omega
    · rw [List.take_of_length_le]; rw [List.length_map, Fr.encode_length, ← Hn.out]; omega
section
attribute [local go_sem ↓] n32_shl n32_shr
attribute [local go_sem] u32_signed n32to8
theorem four_calls (x : BitVec 32) (w : World) :
    Calls Tryz.prog 79 #[.int .u32 (n32 x)] w fun e w' => ∃ A' cap', e = .returned (.slice A' 4 cap') ∧ w'.ownsRow w.heap.size 5 1 (.slice A' 4 cap') 4 ((Crc.be x).map V8) ∧ Below w.heap.size w w' := by
  go_enter Tryz.func79, Tryz.ntmps79
  go_wp2_with fail
  go_ret
  refine ⟨_, _, rfl, own_lit w _ _ _ 4 (Nat.le_refl _) rfl (by unfold maxLen; omega), (Below.refl _ _).alloc (Nat.le_refl _) _⟩
end
theorem isK_range (k : Int) (h : isK k = true) : ¬ k < 1 ∧ ¬ 3 < k := by
  simp [isK] at h; omega
theorem isK_not (k : Int) (h : isK k = false) : k < 1 ∨ (¬ k < 1 ∧ 3 < k) := by
  simp [isK] at h; omega
set_option maxHeartbeats 1000000 in
theorem rencode_bad (k : Int) (A : Option Addr) (n cap : Nat) (w : World) (hk : isK k = false) :
    Calls Tryz.prog 28 #[VF k A n cap] w fun e w' => e = .returned (.tuple #[.slice none 0 0, .int .i64 30]) ∧ Below w.heap.size w w' := by
  rcases isK_not k hk with h | ⟨h1, h2⟩
  · clear hk
    go_enter Tryz.func28, Tryz.ntmps28
    go_wp2_with fail
    go_ret2
    exact ⟨rfl, (Below.refl _ _).alloc (Nat.le_refl _) _⟩
  · clear hk
    go_enter Tryz.func28, Tryz.ntmps28
    go_wp2_with fail
    go_ret2
    exact ⟨rfl, (Below.refl _ _).alloc (Nat.le_refl _) _⟩
set_option maxHeartbeats 1000000 in
theorem rencode_long (k : Int) (A : Option Addr) (n cap : Nat) (w : World) (hk : isK k = true) (hn : 1024 < n) :
    Calls Tryz.prog 28 #[VF k A n cap] w fun e w' => e = .returned (.tuple #[.slice none 0 0, .int .i64 31]) ∧ Below w.heap.size w w' := by
  have hn' : (1024 : Int) < (n : Int) := by omega
  obtain ⟨h1, h2⟩ := isK_range k hk
  clear hk
  go_enter Tryz.func28, Tryz.ntmps28
  go_wp2_with fail
  go_ret2
  exact ⟨rfl, (Below.refl _ _).alloc (Nat.le_refl _) _⟩
set_option maxHeartbeats 1000000 in
theorem rencode_good (k : Int) (kb : BitVec 8) (A : Option Addr) (n cap B : Nat) (bs : List (BitVec 8)) (w : World) (hk : isK k = true) (hkb : k = (n8 kb : Int)) (hn : n = bs.length) (hm : n ≤ 1024) (hnil : A = none → n = 0 ∧ cap = 0) (hr : Rd w B A (bs.map V8)) (hB : B ≤ w.heap.size) :
    Calls Tryz.prog 28 #[VF k A n cap] w fun e w' => ∃ A' cap', e = .returned (.tuple #[.slice A' (n + 12) cap', .int .i64 0]) ∧
      w'.ownsRow w.heap.size 5 1 (.slice A' (n + 12) cap') (n + 12) ((Fr.encode kb bs).map V8) ∧ Below w.heap.size w w' := by
  obtain ⟨h1, h2⟩ := isK_range k hk
  have h3 : IntKind.u8.wrap k = (n8 kb : Int) := by rw [hkb]; exact wrap_u8_toNat kb
  have hq : IntKind.u8.wrap ((n : Int) / 256) = (n8 (BitVec.ofNat 8 (n / 256)) : Int) := by
    rw [← byte_of_nat]; congr 1
  have hr2 : IntKind.u8.wrap ((n : Int) % 256) = (n8 (BitVec.ofNat 8 n) : Int) := by
    rw [← byte_of_nat, IntKind.wrap_u8', IntKind.wrap_u8']; omega
  obtain ⟨i0, hi, hz0, hz1, hz2⟩ := info_parts infoU8
  have Hi := Lib.hid hi; clear hi
  have Hr := Lib.hid hr; have Hn := Lib.hid hn; have Hnil := Lib.hid hnil
  clear hk hkb hr hn hnil
  go_enter Tryz.func28, Tryz.ntmps28
  go_wp2_with fail
  have hb0 := heap2_a w (Obj.cells #[Value.int IntKind.i64 k, Value.slice A n cap] 74) (Obj.cells #[.int .u8 112, V8 kb, V8 (BitVec.ofNat 8 (n / 256)), V8 (BitVec.ofNat 8 n)] 5)
  have hb1 := heap2_b w (Obj.cells #[Value.int IntKind.i64 k, Value.slice A n cap] 74) (Obj.cells #[.int .u8 112, V8 kb, V8 (BitVec.ofNat 8 (n / 256)), V8 (BitVec.ofNat 8 n)] 5)
  have hal : Below w.heap.size w ((w.alloc (Obj.cells #[Value.int IntKind.i64 k, Value.slice A n cap] 74)).alloc (Obj.cells #[.int .u8 112, V8 kb, V8 (BitVec.ofNat 8 (n / 256)), V8 (BitVec.ofNat 8 n)] 5)) :=
    ((Below.refl _ _).alloc (Nat.le_refl _) _).alloc (by simp) _
  have hown : ((w.alloc (Obj.cells #[Value.int IntKind.i64 k, Value.slice A n cap] 74)).alloc (Obj.cells #[.int .u8 112, V8 kb, V8 (BitVec.ofNat 8 (n / 256)), V8 (BitVec.ofNat 8 n)] 5)).ownsRow (w.heap.size + 1) 5 1 (.slice (some ⟨w.heap.size + 1, 0, none⟩) 4 4) 4 ((Fr.h4 kb n).map V8) := by
    have := own_lit (w.alloc (Obj.cells #[Value.int IntKind.i64 k, Value.slice A n cap] 74)) (w.heap.size + 1) 5 #[.int .u8 112, V8 kb, V8 (BitVec.ofNat 8 (n / 256)), V8 (BitVec.ofNat 8 n)] 4 (by simp) rfl (by unfold maxLen; omega)
    simp only [World.size_alloc] at this
    exact this
  generalize (w.alloc (Obj.cells #[Value.int IntKind.i64 k, Value.slice A n cap] 74)).alloc (Obj.cells #[.int .u8 112, V8 kb, V8 (BitVec.ofNat 8 (n / 256)), V8 (BitVec.ofNat 8 n)] 5) = w1 at *
  have s1 := lt_heap hb1
  have hc1 : w1.cell? ⟨w.heap.size, 1, none⟩ = some (.slice A n cap) := by rw [cell_heap hb0]; rfl
  have Hal := Lib.hid hal; have Hown := Lib.hid hown; have Hc1 := Lib.hid hc1
  clear hb0 hb1 hal hown hc1
  refine (rsum_calls _ 4 4 _ (Fr.h4 kb n) w1 rfl (by decide) (own_rd Hown.out)).mono ?_
  rintro e w' ⟨rfl, rfl⟩
  go_wp2_with fail
  refine (four_calls (Crc.sum (Fr.h4 kb n)) w1).mono ?_
  rintro e w2 ⟨A2, c2, rfl, hown2, hbb⟩
  have hs2 := hbb.size
  have Hown2 := Lib.hid hown2
  have Hb2 := Lib.hid (Hal.out.trans (hbb.mono (by omega)))
  have Hown12 := Lib.hid (own_below Hown.out hbb (Nat.le_refl _))
  have Hc2 : Hid (w2.cell? ⟨w.heap.size, 1, none⟩ = some (.slice A n cap)) := Lib.hid ((hbb.cell (p := ⟨w.heap.size, 1, none⟩) (show w.heap.size < _ by omega)).trans Hc1.out)
  clear hbb hown2
  go_wp2_with (at_builtin; refine wpList_append_rd rfl _ _ 22 rfl (w.heap.size + 1) 5 i0 _ 1 descU8s Hi.out hz0 hz1 hz2 rfl _ 4 ((Fr.h4 kb n).map V8) rfl Hown12.out _ A2 4 c2 ((Crc.be (Crc.sum (Fr.h4 kb n))).map V8) rfl rfl (own_nil Hown2.out) (own_rd Hown2.out) (v8_one _) (by unfold maxLen; omega) (by omega) (by omega) ?_)
  intro v3 w3 hown3 hg3
  rw [← List.map_append] at hown3
  obtain ⟨A3, c3, rfl, hc3, _, _⟩ := own_form hown3
  have hs3 := hg3.size
  have hb3 := grown_below Hown12.out hg3 (by omega)
  have Hb3 := Lib.hid (Hb2.out.trans (hb3.mono (by omega)))
  have c3' : w3.cell? ⟨w.heap.size, 1, none⟩ = some (.slice A n cap) := (hb3.cell (p := ⟨w.heap.size, 1, none⟩) (show w.heap.size < _ by omega)).trans Hc2.out
  have Hr3 := Lib.hid (Hr.out.below Hb3.out hB)
  have Hown3 := Lib.hid hown3
  clear hown3 hg3 hb3 Hown12 Hown2
  have Hln : Hid (n = (bs.map V8).length) := Lib.hid (by rw [List.length_map]; exact Hn.out)
  go_wp2_with (at_builtin; refine wpList_append_rd rfl _ _ 22 rfl (w.heap.size + 1) 5 i0 _ 1 descU8s Hi.out hz0 hz1 hz2 rfl _ (4 + 4) ((Fr.h4 kb n ++ Crc.be (Crc.sum (Fr.h4 kb n))).map V8) rfl Hown3.out _ A n cap (bs.map V8) rfl Hln.out Hnil.out Hr3.out (v8_one _) (by unfold maxLen; omega) (by omega) (by omega) ?_)
  intro v4 w4 hown4 hg4
  rw [← List.map_append] at hown4
  obtain ⟨A4, c4, rfl, hc4, _, _⟩ := own_form hown4
  have hs4 := hg4.size
  have hb4 := grown_below Hown3.out hg4 (by omega)
  have Hb4 := Lib.hid (Hb3.out.trans (hb4.mono (by omega)))
  have c4' : w4.cell? ⟨w.heap.size, 1, none⟩ = some (.slice A n cap) := (hb4.cell (p := ⟨w.heap.size, 1, none⟩) (show w.heap.size < _ by omega)).trans c3'
  have Hr4 := Lib.hid (Hr.out.below Hb4.out hB)
  have Hown4 := Lib.hid hown4
  clear hown4 hg4 hb4 Hown3 c3' Hr3
  go_wp2_with fail
  refine (rsum_calls A n cap _ bs w4 Hn.out (by unfold maxLen; omega) Hr4.out).mono ?_
  rintro e w' ⟨rfl, rfl⟩
  go_wp2_with fail
  refine (four_calls (Crc.sum bs) w4).mono ?_
  rintro e w5 ⟨A5, c5, rfl, hown5, hbb⟩
  have hs5 := hbb.size
  have Hown5 := Lib.hid hown5
  have Hb5 := Lib.hid (Hb4.out.trans (hbb.mono (by omega)))
  have Hown45 := Lib.hid (own_below Hown4.out hbb (Nat.le_refl _))
  clear hbb hown5
  go_wp2_with (at_builtin; refine wpList_append_rd rfl _ _ 22 rfl (w.heap.size + 1) 5 i0 _ 1 descU8s Hi.out hz0 hz1 hz2 rfl _ (4 + 4 + n) ((Fr.h4 kb n ++ Crc.be (Crc.sum (Fr.h4 kb n)) ++ bs).map V8) rfl Hown45.out _ A5 4 c5 ((Crc.be (Crc.sum bs)).map V8) rfl rfl (own_nil Hown5.out) (own_rd Hown5.out) (v8_one _) (by unfold maxLen; omega) (by omega) (by omega) ?_)
  intro v6 w6 hown6 hg6
  rw [← List.map_append] at hown6
  rw [show 4 + 4 + n + 4 = n + 12 by omega] at hown6
  obtain ⟨A6, c6, rfl, hc6, _, _⟩ := own_form hown6
  have Hb6 := Lib.hid (below_own Hb5.out Hown45.out hg6 (by omega) (by omega))
  have Hown6 := Lib.hid hown6
  clear hown6 hg6
  go_wp2_with fail
  go_ret2
  refine ⟨_, _, rfl, ?_, Hb6.out⟩
  have := own_base Hown6.out (show w.heap.size ≤ w.heap.size + 1 by omega)
  rw [Hn.out] at this ⊢
  exact this
theorem aggFrame : (Tryz.prog.underlying 74).map aggDesc = some true := by kernel_rfl
theorem sizeFrame : (Tryz.prog.info? 74).map (·.size) = some 2 := by kernel_rfl
theorem agg_of {P : Program} {ty : TypeId} (h : (P.underlying ty).map aggDesc = some true) : ∃ d, P.underlying ty = some d ∧ aggDesc d = true := by
  cases hq : P.underlying ty with
  | none => simp [hq] at h
  | some d => rw [hq] at h; exact ⟨d, rfl, by simpa using h⟩
section
variable {dst : Option Tmp} {ty : TypeId} {pos : String} {af : Array Edge} {gd : Option (Nat × Bool)} {x y : Operand} {a : Act} {w : World} {K : Act → World → Prop} {Q : Exit → Act → World → Prop}
theorem loadF (h : IsRowAt w (a.eval x) 74 2) : Oper.wp Tryz.prog ⟨dst, .load 74 x, ty, pos, af, gd⟩ a w K Q = K (a.put dst (.agg (rowAt w (a.eval x)))) w := by
  obtain ⟨d, h1, h2⟩ := agg_of aggFrame
  exact op_load_row h1 h2 sizeFrame h
theorem storeF (h : IsRowAt w (a.eval x) 74 2) (hy : IsAggV (a.eval y) 2) : Oper.wp Tryz.prog ⟨dst, .store 74 x y, ty, pos, af, gd⟩ a w K Q = K (a.put dst undef) (w.setRow (blkOf (a.eval x)) (aggOf (a.eval y))) := op_store_row sizeFrame h hy
end
theorem results_cell3 {P : Program} {fn : Func} {p u v : Tmp} {ty : TypeId} (h : fn.results = #[.cell p ty, .tmp u, .tmp v]) (tmps : Array Value) (w : World) (g : Nat) (t : TypeId) (cs : Array Value) (fr : Nat × Nat)
    (hp : tmps.getD p undef = .pointer (some ⟨g, 0, none⟩)) (hg : w.heap[g]? = some (.cells cs t fr))
    (hu : (P.underlying ty).map aggDesc = some true) (hi : (P.info? ty).map (·.size) = some cs.size) :
    (results fn tmps).run P w = .ok (.tuple #[.agg cs, tmps.getD u undef, tmps.getD v undef]) w := by
  have hp' : tmps[p]?.getD undef = .pointer (some ⟨g, 0, none⟩) := by simpa using hp
  obtain ⟨d, h1, h2⟩ := agg_of hu
  simp [results, h, hp', asAddr, run_loadVar_row w g t ty cs fr d hg h1 (by cases d <;> simp_all [aggDesc]) hi]
theorem pair_cells (k : Int) (A : Option Addr) (n cap : Nat) : Cells1 #[.int .i64 k, .slice A n cap] 2 := ⟨rfl, by intro v hv; simp at hv; rcases hv with rfl | rfl <;> rfl⟩
/-- What a call of Decode answers. -/
def DecAns (bs : List (BitVec 8)) (w : World) (e : Ending) (w' : World) : Prop :=
  Below w.heap.size w w' ∧ ((Fr.good bs = false ∧ e = .returned (.tuple #[VF 0 none 0 0, .int .i64 0, .int .i64 32])) ∨
    (Fr.good bs = true ∧ ∃ A' cap', e = .returned (.tuple #[VF (n8 (Fr.kOf bs) : Int) A' (Fr.nOf bs) cap', .int .i64 ((Fr.nOf bs + 12 : Nat) : Int), .int .i64 0]) ∧
      w'.ownsRow w.heap.size 5 1 (.slice A' (Fr.nOf bs) cap') (Fr.nOf bs) ((Fr.pOf bs).map V8)))
attribute [local go_sem ↓] loadF storeF load4 load8 store4 store8
attribute [local go_sem] isLoadOf loadArg isRowAt_ptr rowAt_ptr blkOf_ptr aggOf_agg isAggV_agg isRow_alloc_new pair_cells
set_option maxHeartbeats 1000000 in
theorem decode_short (A : Option Addr) (n cap : Nat) (bs : List (BitVec 8)) (w : World) (hn : n = bs.length) (h : n < 12) :
    Calls Tryz.prog 31 #[.slice A n cap] w (DecAns bs w) := by
  have hb : (n : Int) < 12 := by omega
  have Hg := Lib.hid (show Fr.good bs = false by unfold Fr.good; rw [decide_eq_false (by omega)]; rfl)
  clear hn
  go_enter Tryz.func31, Tryz.ntmps31
  go_wp2_with fail
  refine bodyPost_ret (results_cell3 rfl _ _ w.heap.size 74 _ (0, 0) rfl (setRow_heap _ _ _ _ _ _ (heap_alloc_new _ _)) aggFrame sizeFrame) rfl ?_
  exact ⟨below_setRow ((Below.refl _ _).alloc (Nat.le_refl _) _) (Nat.le_refl _) _, Or.inl ⟨Hg.out, rfl⟩⟩
/-- The first eight bytes, and where they lie. -/
structure Eight (w : World) (A : Option Addr) (blk off : Nat) (bs : List (BitVec 8)) (b0 b1 b2 b3 b4 b5 b6 b7 : BitVec 8) : Prop where
  ea : A = some ⟨blk, off, none⟩
  lt : blk < w.heap.size
  c0 : w.cell? ⟨blk, off, none⟩ = some (V8 b0)
  c1 : w.cell? ⟨blk, off + 1, none⟩ = some (V8 b1)
  c2 : w.cell? ⟨blk, off + 2, none⟩ = some (V8 b2)
  c3 : w.cell? ⟨blk, off + 3, none⟩ = some (V8 b3)
  c4 : w.cell? ⟨blk, off + 4, none⟩ = some (V8 b4)
  c5 : w.cell? ⟨blk, off + 5, none⟩ = some (V8 b5)
  c6 : w.cell? ⟨blk, off + 6, none⟩ = some (V8 b6)
  c7 : w.cell? ⟨blk, off + 7, none⟩ = some (V8 b7)
  tk : bs.take 8 = [b0, b1, b2, b3, b4, b5, b6, b7]
  no : Fr.nOf bs = n8 b2 * 256 + n8 b3
  ko : Fr.kOf bs = b1
theorem eight {w : World} {A : Option Addr} {B n : Nat} {bs : List (BitVec 8)} (hn : n = bs.length) (h12 : ¬ n < 12) (hr : Rd w B A (bs.map V8)) (hB : B ≤ w.heap.size) :
    ∃ blk off b0 b1 b2 b3 b4 b5 b6 b7, Eight w A blk off bs b0 b1 b2 b3 b4 b5 b6 b7 := by
  match bs, hn, hr with
  | b0 :: b1 :: b2 :: b3 :: b4 :: b5 :: b6 :: b7 :: rest, hn, hr =>
    obtain ⟨blk, off, e, hb, c0⟩ := hr 0 (V8 b0) rfl
    have hc : ∀ (i : Nat) (v : Value), ((b0 :: b1 :: b2 :: b3 :: b4 :: b5 :: b6 :: b7 :: rest).map V8)[i]? = some v → w.cell? ⟨blk, off + i, none⟩ = some v := fun i v hv => by
      obtain ⟨b', o', e', _, c'⟩ := hr i v hv
      rw [e] at e'; injection e' with e'; injection e' with e1 e2; subst e1; subst e2; exact c'
    exact ⟨blk, off, b0, b1, b2, b3, b4, b5, b6, b7, e, by omega, c0, hc 1 _ rfl, hc 2 _ rfl, hc 3 _ rfl, hc 4 _ rfl, hc 5 _ rfl, hc 6 _ rfl, hc 7 _ rfl, rfl, rfl, rfl⟩
  | [], hn, _ | [_], hn, _ | [_, _], hn, _ | [_, _, _], hn, _ | [_, _, _, _], hn, _ | [_, _, _, _, _], hn, _ | [_, _, _, _, _, _], hn, _ | [_, _, _, _, _, _, _], hn, _ => simp at hn; omega
theorem quiet_kind (k : Int) (w : World) (m : Nat) :
    Calls Tryz.prog 76 #[.int .i64 k] (w.drewN m) fun e w'' => e = .returned (.bool (isK k)) ∧ ∃ k', w'' = w.drewN k' :=
  (kind_calls k (w.drewN m)).mono fun _ _ ⟨he, hw⟩ => ⟨he, m, hw.symm⟩
theorem below_drewN {B : Nat} {a w : World} (h : Below B a w) (n : Nat) : Below B a (w.drewN n) := ⟨h.os, h.tape, h.output, h.size, h.block⟩
theorem wrap_n8 (b : BitVec 8) : wrap64 (n8 b : Int) = (n8 b : Int) := by have := n8_lt b; unfold wrap64; omega
theorem wrap_nOf (bs : List (BitVec 8)) (b2 b3 : BitVec 8) (h : Fr.nOf bs = n8 b2 * 256 + n8 b3) : wrap64 (wrap64 (wrap64 (n8 b2 : Int) * 256) + wrap64 (n8 b3 : Int)) = (Fr.nOf bs : Int) := by
  have := n8_lt b2; have := n8_lt b3
  rw [wrap_n8, wrap_n8, h]; unfold wrap64; omega
theorem plain8 : Tryz.prog.plainKey 5 = true := by kernel_rfl
theorem cellsU8 : Tryz.prog.cellsOf 5 = 1 := by kernel_rfl
theorem n8_beq (a b : BitVec 8) : ((n8 a : Int) == (n8 b : Int)) = decide (a = b) := by
  by_cases h : a = b
  · subst h; simp
  · rw [decide_eq_false h, beq_eq_false_iff_ne]; intro hc; exact h (n8_inj (by omega))
theorem items8 (d : Nat) (xs ys : List (BitVec 8)) (w : World) : ∀ (m k : Nat), k + m = xs.length → k + m = ys.length →
    (Op.eqItems (d + 1) 5 1 (arr xs) (arr ys) (List.range' k m)).run Tryz.prog w = .ok (decide (xs.drop k = ys.drop k)) w
  | 0, k, h1, h2 => by
    rw [List.drop_eq_nil_of_le (by omega), List.drop_eq_nil_of_le (by omega)]
    simp [Op.eqItems]
  | m + 1, k, h1, h2 => by
    have hx : (arr xs)[k]? = some (V8 (xs[k]'(by omega))) := by simp [arr, List.getElem?_eq_getElem (show k < xs.length by omega)]
    have hy : (arr ys)[k]? = some (V8 (ys[k]'(by omega))) := by simp [arr, List.getElem?_eq_getElem (show k < ys.length by omega)]
    have ih := items8 d xs ys w m (k + 1) (by omega) (by omega)
    rw [List.range'_succ]
    simp only [Op.eqItems, Nat.mul_one, Sem.run_bind, run_part_plain w plain8 hx, run_part_plain w plain8 hy, Result.andThen_ok, run_equalIn_int w d 5 .u8 .u8 _ _ descU8, n8_beq]
    have e : (xs.drop k = ys.drop k) = (xs[k]'(by omega) = ys[k]'(by omega) ∧ xs.drop (k + 1) = ys.drop (k + 1)) := by
      rw [List.drop_eq_getElem_cons (show k < xs.length by omega), List.drop_eq_getElem_cons (show k < ys.length by omega), List.cons.injEq]
    simp only [e]
    by_cases hc : xs[k]'(by omega) = ys[k]'(by omega)
    · simp [hc, ih]
    · simp [hc]
theorem eq_arr {t n : Nat} (hu : Tryz.prog.underlying t = some (.array n 5)) (d : Nat) (xs ys : List (BitVec 8)) (hx : n = xs.length) (hy : n = ys.length) (w : World) :
    (Op.equalIn (d + 2) t (.agg (arr xs)) (.agg (arr ys))).run Tryz.prog w = .ok (decide (xs = ys)) w := by
  obtain ⟨i0, hi, _⟩ := info_parts infoU8
  rw [run_equalIn_array w (d + 1) _ _ hu hi, cellsU8, List.range_eq_range']
  exact items8 d xs ys w n 0 (by omega) (by omega)
theorem c8_keep {W w' w'' : World} {blk off : Nat} {b0 b1 b2 b3 b4 b5 b6 b7 : BitVec 8} (h : (w'.cell? ⟨blk, off, none⟩ = some (V8 b0) ∧ w'.cell? ⟨blk, off + 1, none⟩ = some (V8 b1) ∧ w'.cell? ⟨blk, off + 2, none⟩ = some (V8 b2) ∧ w'.cell? ⟨blk, off + 3, none⟩ = some (V8 b3) ∧ w'.cell? ⟨blk, off + 4, none⟩ = some (V8 b4) ∧ w'.cell? ⟨blk, off + 5, none⟩ = some (V8 b5) ∧ w'.cell? ⟨blk, off + 6, none⟩ = some (V8 b6) ∧ w'.cell? ⟨blk, off + 7, none⟩ = some (V8 b7)) ∧ blk < W.heap.size ∧ Below W.heap.size W w') (hb : Below W.heap.size w' w'') :
    (w''.cell? ⟨blk, off, none⟩ = some (V8 b0) ∧ w''.cell? ⟨blk, off + 1, none⟩ = some (V8 b1) ∧ w''.cell? ⟨blk, off + 2, none⟩ = some (V8 b2) ∧ w''.cell? ⟨blk, off + 3, none⟩ = some (V8 b3) ∧ w''.cell? ⟨blk, off + 4, none⟩ = some (V8 b4) ∧ w''.cell? ⟨blk, off + 5, none⟩ = some (V8 b5) ∧ w''.cell? ⟨blk, off + 6, none⟩ = some (V8 b6) ∧ w''.cell? ⟨blk, off + 7, none⟩ = some (V8 b7)) ∧ blk < W.heap.size ∧ Below W.heap.size W w'' := by
  obtain ⟨⟨a0, a1, a2, a3, a4, a5, a6, a7⟩, hl, hbb⟩ := h
  have hk : ∀ o, w''.cell? ⟨blk, o, none⟩ = w'.cell? ⟨blk, o, none⟩ := fun o => hb.cell (p := ⟨blk, o, none⟩) hl
  exact ⟨⟨(hk _).trans a0, (hk _).trans a1, (hk _).trans a2, (hk _).trans a3, (hk _).trans a4, (hk _).trans a5, (hk _).trans a6, (hk _).trans a7⟩, hl, hbb.trans hb⟩
theorem c4_keep {W w' w'' : World} {blk off q : Nat} {t0 t1 t2 t3 : BitVec 8} (h : (w'.cell? ⟨blk, off + q, none⟩ = some (V8 t0) ∧ w'.cell? ⟨blk, off + q + 1, none⟩ = some (V8 t1) ∧ w'.cell? ⟨blk, off + q + 2, none⟩ = some (V8 t2) ∧ w'.cell? ⟨blk, off + q + 3, none⟩ = some (V8 t3)) ∧ blk < W.heap.size ∧ Below W.heap.size W w') (hb : Below W.heap.size w' w'') :
    (w''.cell? ⟨blk, off + q, none⟩ = some (V8 t0) ∧ w''.cell? ⟨blk, off + q + 1, none⟩ = some (V8 t1) ∧ w''.cell? ⟨blk, off + q + 2, none⟩ = some (V8 t2) ∧ w''.cell? ⟨blk, off + q + 3, none⟩ = some (V8 t3)) ∧ blk < W.heap.size ∧ Below W.heap.size W w'' := by
  obtain ⟨⟨a0, a1, a2, a3⟩, hl, hbb⟩ := h
  have hk : ∀ o, w''.cell? ⟨blk, o, none⟩ = w'.cell? ⟨blk, o, none⟩ := fun o => hb.cell (p := ⟨blk, o, none⟩) hl
  exact ⟨⟨(hk _).trans a0, (hk _).trans a1, (hk _).trans a2, (hk _).trans a3⟩, hl, hbb.trans hb⟩
theorem rd_sub {w : World} {B blk off : Nat} {vs : List Value} (h : Rd w B (some ⟨blk, off, none⟩) vs) (o n : Nat) : Rd w B (some ⟨blk, off + o, none⟩) ((vs.drop o).take n) := fun k v hv => by
  have hv' : vs[o + k]? = some v := by
    rw [List.getElem?_take] at hv
    split at hv
    · rw [List.getElem?_drop] at hv; exact hv
    · cases hv
  obtain ⟨b', o', e', hb, c'⟩ := h _ _ hv'
  injection e' with e'; injection e' with e1 e2; subst e1; subst e2
  exact ⟨_, _, rfl, hb, by rw [Nat.add_assoc]; exact c'⟩
theorem rd_sub8 {w : World} {B blk off : Nat} {bs : List (BitVec 8)} (h : Rd w B (some ⟨blk, off, none⟩) (bs.map V8)) (o n : Nat) : Rd w B (some ⟨blk, off + o, none⟩) (((bs.drop o).take n).map V8) := by
  have := rd_sub h o n
  rw [← List.map_drop, ← List.map_take] at this; exact this
theorem four_of {l : List (BitVec 8)} (h : l.length = 4) : ∃ t0 t1 t2 t3, l = [t0, t1, t2, t3] := by
  match l, h with
  | [t0, t1, t2, t3], _ => exact ⟨t0, t1, t2, t3, rfl⟩
theorem good_eq {bs : List (BitVec 8)} {n m : Nat} {b1 : BitVec 8} {T : List (BitVec 8)} (hn : n = bs.length) (h12 : ¬ n < 12) (tk : bs.take 8 = T) (ko : Fr.kOf bs = b1) (em : m = Fr.nOf bs) :
    Fr.good bs = (isK (n8 b1 : Int) && decide (m ≤ 1024) && decide (m + 12 ≤ n) && decide (T = Fr.head b1 m) && decide ((bs.drop (8 + m)).take 4 = Crc.be (Crc.sum (Fr.pOf bs)))) := by
  have hk : Fr.isKb (Fr.kOf bs) = isK (n8 b1 : Int) := by
    rw [ko]; unfold Fr.isKb isK n8
    rw [Bool.eq_iff_iff]; simp; omega
  unfold Fr.good
  rw [hk, ← em, ← hn, decide_eq_true (show 12 ≤ n by omega), Bool.true_and, Nat.add_comm 12 m]
  by_cases hl : m + 12 ≤ n
  · rw [decide_eq_true hl]
    have := Fr.parts (b := bs) (by omega)
    rw [← em, tk, ko] at this
    rw [Nat.add_comm 12 m, ] at this
    rw [ko]
    by_cases h1 : T = Fr.head b1 m
    · rw [decide_eq_true h1]
      by_cases h2 : (bs.drop (8 + m)).take 4 = Crc.be (Crc.sum (Fr.pOf bs))
      · rw [decide_eq_true h2, decide_eq_true (this.2 ⟨h1, h2⟩)]; simp
      · rw [decide_eq_false h2, decide_eq_false (fun h => h2 (this.1 h).2)]; simp
    · rw [decide_eq_false h1, decide_eq_false (fun h => h1 (this.1 h).1)]; simp
  · rw [decide_eq_false hl]; simp
set_option maxHeartbeats 4000000 in
theorem decode_calls (A : Option Addr) (n cap B : Nat) (bs : List (BitVec 8)) (w : World) (hn : n = bs.length) (hm : n ≤ maxLen) (hr : Rd w B A (bs.map V8)) (hB : B ≤ w.heap.size) (hcp : n ≤ cap) (ht : TabIn w) :
    Calls Tryz.prog 31 #[.slice A n cap] w (DecAns bs w) := by
  by_cases h : n < 12
  · exact decode_short A n cap bs w hn h
  obtain ⟨blk, off, b0, b1, b2, b3, b4, b5, b6, b7, h8⟩ := eight hn h hr hB
  obtain ⟨rfl, hlt, c0, c1, c2, c3, c4, c5, c6, c7, tk, no, ko⟩ := h8
  have hb : ¬ (n : Int) < 12 := by omega
  have h1 : (1 : Int) < (n : Int) := by omega
  have h2 : (2 : Int) < (n : Int) := by omega
  have h3 : (3 : Int) < (n : Int) := by omega
  unfold maxLen at hm
  have Hno := Lib.hid (wrap_nOf bs b2 b3 no)
  have Hr := Lib.hid hr; have Hn := Lib.hid hn; have Ht := Lib.hid ht; have Htk := Lib.hid tk; have Hko := Lib.hid ko
  have hmb : Fr.nOf bs ≤ 65535 := by have := n8_lt b2; have := n8_lt b3; omega
  clear hn hr tk ko no ht
  go_enter Tryz.func31, Tryz.ntmps31
  go_wp2_with fail
  go_quiet (fail)
  rw [Hno.out, wrap_n8]
  have hbw : Below w.heap.size w ((w.alloc (.cells #[.int .i64 0, .slice none 0 0] 74)).drewN nq) := below_drewN ((Below.refl _ _).alloc (Nat.le_refl _) _) nq
  have hg0 : ((w.alloc (.cells #[.int .i64 0, .slice none 0 0] 74)).drewN nq).heap[w.heap.size]? = some (.cells #[.int .i64 0, .slice none 0 0] 74 (0, 0)) := heap_alloc_new _ _
  have k0 := (hbw.cell (p := ⟨blk, off, none⟩) hlt).trans c0
  have k1 := (hbw.cell (p := ⟨blk, off + 1, none⟩) hlt).trans c1
  have k2 := (hbw.cell (p := ⟨blk, off + 2, none⟩) hlt).trans c2
  have k3 := (hbw.cell (p := ⟨blk, off + 3, none⟩) hlt).trans c3
  have k4 := (hbw.cell (p := ⟨blk, off + 4, none⟩) hlt).trans c4
  have k5 := (hbw.cell (p := ⟨blk, off + 5, none⟩) hlt).trans c5
  have k6 := (hbw.cell (p := ⟨blk, off + 6, none⟩) hlt).trans c6
  have k7 := (hbw.cell (p := ⟨blk, off + 7, none⟩) hlt).trans c7
  clear c0 c1 c2 c3 c4 c5 c6 c7
  generalize (w.alloc (.cells #[.int .i64 0, .slice none 0 0] 74)).drewN nq = W at *
  have hs0 := lt_heap hg0
  have Hbw := Lib.hid hbw; have Hg0 := Lib.hid hg0
  clear hbw hg0
  obtain ⟨m, em⟩ : ∃ m, m = Fr.nOf bs := ⟨_, rfl⟩
  rw [← em] at hmb ⊢
  have hwm : wrap64 (wrap64 (8 + (m : Int)) + 4) = (m : Int) + 12 := by unfold wrap64; omega
  have Hem := Lib.hid em; clear em
  go_wp2_with fail
  obtain ⟨hd8, Hd8⟩ : ∃ x, x = decide ([b0, b1, b2, b3, b4, b5, b6, b7] = Fr.head b1 m) := ⟨_, rfl⟩
  obtain ⟨bb, Hbb⟩ : ∃ x, x = (isK (n8 b1 : Int) && decide (m ≤ 1024) && decide (m + 12 ≤ n) && hd8) := ⟨_, rfl⟩
  have HD := Lib.hid Hd8
  have HB := Lib.hid Hbb
  have hw1 : IntKind.i64.wrap (8 + (m : Int)) = 8 + (m : Int) := IntWalk.i64_in _ (by omega)
  have hw2 : IntKind.i64.wrap (8 + (m : Int) + 4) = 8 + (m : Int) + 4 := IntWalk.i64_in _ (by omega)
  have hlw : blk < W.heap.size := by omega
  go_cut [51] (fun s51 w' => s51 = .bool (!bb) ∧ Below W.heap.size W w')
  case first =>
    by_cases hall : isK (n8 b1 : Int) = true ∧ m ≤ 1024 ∧ m + 12 ≤ n
    · obtain ⟨ha, hc, hd⟩ := hall
      have hbb : bb = hd8 := by rw [Hbb, ha, decide_eq_true hc, decide_eq_true hd]; simp
      have h4' : decide ((1024 : Int) < (m : Int)) = false := by rw [decide_eq_false_iff_not]; omega
      have h6 : (8 : Int) ≤ (cap : Int) := by omega
      have h5s : decide ((n : Int) < 8 + (m : Int) + 4) = false := by rw [decide_eq_false_iff_not]; omega
      have Htw : Hid (TabIn W) := Lib.hid (tabIn_of Ht.out Hbw.out)
      have hst : (W.cell? ⟨blk, off, none⟩ = some (V8 b0) ∧ W.cell? ⟨blk, off + 1, none⟩ = some (V8 b1) ∧ W.cell? ⟨blk, off + 2, none⟩ = some (V8 b2) ∧ W.cell? ⟨blk, off + 3, none⟩ = some (V8 b3) ∧ W.cell? ⟨blk, off + 4, none⟩ = some (V8 b4) ∧ W.cell? ⟨blk, off + 5, none⟩ = some (V8 b5) ∧ W.cell? ⟨blk, off + 6, none⟩ = some (V8 b6) ∧ W.cell? ⟨blk, off + 7, none⟩ = some (V8 b7)) ∧ blk < W.heap.size ∧ Below W.heap.size W W := ⟨⟨k0, k1, k2, k3, k4, k5, k6, k7⟩, hlw, Below.refl _ _⟩
      have hat : ∀ w, (Instr.arrayAt 145 (.slice (some ⟨blk, off, none⟩) 8 cap)).run Tryz.prog w = .ok (.pointer (some ⟨blk, off, none⟩)) w := fun w => run_arrayAt _ _ _ 8 _ 8 cap desc8 (Nat.le_refl _)
      have heq : ∀ w', (Op.equalIn 10000 145 (.agg #[V8 b0, V8 b1, V8 b2, V8 b3, V8 b4, V8 b5, V8 b6, V8 b7]) (.agg (arr (Fr.head b1 m)))).run Tryz.prog w' = .ok (decide ([b0, b1, b2, b3, b4, b5, b6, b7] = Fr.head b1 m)) w' :=
        fun w' => eq_arr desc8 9998 [b0, b1, b2, b3, b4, b5, b6, b7] (Fr.head b1 m) rfl rfl w'
      rw [← Hd8] at heq
      clear Hd8 Hbb
      go_region_held3 (fun w' => (w'.cell? ⟨blk, off, none⟩ = some (V8 b0) ∧ w'.cell? ⟨blk, off + 1, none⟩ = some (V8 b1) ∧ w'.cell? ⟨blk, off + 2, none⟩ = some (V8 b2) ∧ w'.cell? ⟨blk, off + 3, none⟩ = some (V8 b3) ∧ w'.cell? ⟨blk, off + 4, none⟩ = some (V8 b4) ∧ w'.cell? ⟨blk, off + 5, none⟩ = some (V8 b5) ∧ w'.cell? ⟨blk, off + 6, none⟩ = some (V8 b6) ∧ w'.cell? ⟨blk, off + 7, none⟩ = some (V8 b7)) ∧ blk < W.heap.size ∧ Below W.heap.size W w') ((rename (_ ∧ _) ∧ _ ∧ Below _ _ _ => hS; first | exact hS | exact c8_keep hS (Below.refl _ _).drew | exact c8_keep hS (Below.mono (by assumption) hS.2.2.size)))
        (first | (go_at_call 76; refine (kind_calls _ _).mono ?_; rintro e w' ⟨rfl, rfl⟩) | (go_at_call 77; rename (_ ∧ _) ∧ _ ∧ Below _ _ _ => hS; refine (head_calls b1 _ m _ rfl hmb (tabIn_of Htw.out hS.2.2)).mono ?_; rintro e w' ⟨rfl, hb⟩))
      all_goals (rename (_ ∧ _) ∧ _ ∧ Below _ _ _ => hS; have HS := Lib.hid hS; clear hS; go_wp2_with fail; go_meet; exact ⟨by rw [hbb], HS.out.2.2⟩)
    · have hbb : bb = false := by
        rw [Hbb]; simp only [Bool.and_eq_false_iff, decide_eq_false_iff_not]
        by_cases g1 : isK (n8 b1 : Int) = true
        · by_cases g2 : m ≤ 1024
          · exact Or.inl (Or.inr fun g3 => hall ⟨g1, g2, g3⟩)
          · exact Or.inl (Or.inl (Or.inr g2))
        · exact Or.inl (Or.inl (Or.inl (by simpa using g1)))
      clear Hd8 Hbb
      by_cases g1 : isK (n8 b1 : Int) = true
      · by_cases g2 : m ≤ 1024
        · have g3 : ¬ (m + 12 ≤ n) := fun g3 => hall ⟨g1, g2, g3⟩
          have h4' : decide ((1024 : Int) < (m : Int)) = false := by rw [decide_eq_false_iff_not]; omega
          have h5s : decide ((n : Int) < wrap64 (wrap64 (8 + (m : Int)) + 4)) = true := by rw [decide_eq_true_eq, hwm]; omega
          have h5t : decide ((n : Int) < 8 + (m : Int) + 4) = true := by rw [decide_eq_true_eq]; omega
          have h5u : decide ((n : Int) < wrap64 (8 + (m : Int) + 4)) = true := by rw [decide_eq_true_eq]; unfold wrap64; omega
          have h5v : decide ((n : Int) < (m : Int) + 12) = true := by rw [decide_eq_true_eq]; omega
          clear hall
          go_quiet ((go_at_call 76; exact quiet_kind _ _ _))
          go_wp2_with fail
          go_meet
          exact ⟨by rw [hbb]; rfl, below_drewN (Below.refl _ _) _⟩
        · have h4' : decide ((1024 : Int) < (m : Int)) = true := by rw [decide_eq_true_eq]; omega
          clear hall
          go_quiet ((go_at_call 76; exact quiet_kind _ _ _))
          go_wp2_with fail
          go_meet
          exact ⟨by rw [hbb]; rfl, below_drewN (Below.refl _ _) _⟩
      · have g1' : isK (n8 b1 : Int) = false := by simpa using g1
        clear hall g1
        go_quiet ((go_at_call 76; exact quiet_kind _ _ _))
        go_wp2_with fail
        go_meet
        exact ⟨by rw [hbb]; rfl, below_drewN (Below.refl _ _) _⟩
  case rest =>
    obtain ⟨rfl, hbc⟩ := hcut
    obtain ⟨wb, ewb⟩ : ∃ x, x = wc := ⟨_, rfl⟩
    subst ewb
    have Hbc := Lib.hid hbc; clear hbc
    clear k0 k1 k2 k3 k4 k5 k6 k7
    cases hbv : bb with
    | false =>
      subst hbv
      have hg := (Hbc.out.block _ hs0).trans Hg0.out
      have hrow : IsRow wb w.heap.size 74 2 := ⟨_, hg, rfl⟩
      have Hg := Lib.hid hg; clear hg
      go_wp2_with fail
      refine bodyPost_ret (results_cell3 rfl _ _ w.heap.size 74 _ (0, 0) rfl (setRow_heap _ _ _ _ _ _ Hg.out) aggFrame sizeFrame) rfl ?_
      refine ⟨below_setRow (Hbw.out.trans (Hbc.out.mono (by omega))) (Nat.le_refl _) _, Or.inl ⟨?_, rfl⟩⟩
      rw [good_eq Hn.out h Htk.out Hko.out Hem.out, ← HD.out, ← HB.out]; rfl
    | true =>
      subst hbv
      have hz := HB.out.symm
      simp only [Bool.and_eq_true, decide_eq_true_eq] at hz
      obtain ⟨⟨⟨z1, z2⟩, z3⟩, z4⟩ := hz
      have Hz1 := Lib.hid z1
      obtain ⟨q, eq⟩ : ∃ q, q = 8 + m := ⟨_, rfl⟩
      have hw1' : IntKind.i64.wrap (8 + (m : Int)) = (q : Int) := by rw [hw1]; omega
      obtain ⟨r, er⟩ : ∃ r, r = q + 4 := ⟨_, rfl⟩
      have hw2' : IntKind.i64.wrap ((q : Int) + 4) = (r : Int) := by rw [IntWalk.i64_in _ (by omega)]; omega
      have he8 : (8 : Int) + (m : Int) = (q : Int) := by omega
      have i1 : (8 : Int) ≤ (q : Int) := by omega
      have i2 : (q : Int) ≤ (cap : Int) := by omega
      have i3 : (r : Int) ≤ (cap : Int) := by omega
      have i4 : (q : Int) ≤ (r : Int) := by omega
      have hwq : IntKind.i64.wrap (q : Int) = (q : Int) := IntWalk.i64_in _ (by omega)
      have hmx : max (r : Int) 0 = (r : Int) := by omega
      have hq8 : q - 8 = m := by omega
      have hq4 : r - q = 4 := by omega
      have hqc : (cap = q) = False := by rw [eq_iff_iff]; constructor <;> intro hx <;> first | omega | cases hx
      have hqc' : (q = cap) = False := by rw [eq_iff_iff]; constructor <;> intro hx <;> first | omega | cases hx
      have Heq := Lib.hid eq
      have hr0 := Hr.out.below (Hbw.out.trans (Hbc.out.mono (show w.heap.size ≤ W.heap.size by omega))) hB
      have hpn : (Fr.pOf bs).length = m := by rw [Fr.pOf_length (by rw [← Hem.out, ← Hn.out]; omega)]; exact Hem.out.symm
      obtain ⟨t0, t1, t2, t3, ht4⟩ := four_of (l := (bs.drop q).take 4) (by rw [List.length_take, List.length_drop, ← Hn.out]; omega)
      have hrt := rd_sub8 hr0 q 4
      rw [ht4] at hrt
      have hcl : ∀ (i : Nat) (v : Value), ([t0, t1, t2, t3].map V8)[i]? = some v → wb.cell? ⟨blk, off + q + i, none⟩ = some v := fun i v hv => by
        obtain ⟨b', o', e', _, c'⟩ := hrt i v hv
        injection e' with e'; injection e' with e1 e2; subst e1; subst e2; exact c'
      have k0 := hcl 0 (V8 t0) rfl
      have k1 := hcl 1 (V8 t1) rfl
      have k2 := hcl 2 (V8 t2) rfl
      have k3 := hcl 3 (V8 t3) rfl
      rw [Nat.add_zero] at k0
      have Hrp := Lib.hid (show Rd wb B (some ⟨blk, off + 8, none⟩) ((Fr.pOf bs).map V8) from rd_sub8 hr0 8 (Fr.nOf bs))
      have hlc : blk < wb.heap.size := by have := Hbc.out.size; omega
      have hBc : B ≤ wb.heap.size := by have := Hbc.out.size; omega
      have Htc := Lib.hid (tabIn_of (tabIn_of Ht.out Hbw.out) Hbc.out)
      have hst : (wb.cell? ⟨blk, off + q, none⟩ = some (V8 t0) ∧ wb.cell? ⟨blk, off + q + 1, none⟩ = some (V8 t1) ∧ wb.cell? ⟨blk, off + q + 2, none⟩ = some (V8 t2) ∧ wb.cell? ⟨blk, off + q + 3, none⟩ = some (V8 t3)) ∧ blk < wb.heap.size ∧ Below wb.heap.size wb wb := ⟨⟨k0, k1, k2, k3⟩, hlc, Below.refl _ _⟩
      have hat : ∀ w, (Instr.arrayAt 147 (.slice (some ⟨blk, off + q, none⟩) 4 (cap - q))).run Tryz.prog w = .ok (.pointer (some ⟨blk, off + q, none⟩)) w := fun w => run_arrayAt _ _ _ 4 _ 4 _ desc4 (Nat.le_refl _)
      have heq : ∀ w', (Op.equalIn 10000 147 (.agg #[V8 t0, V8 t1, V8 t2, V8 t3]) (.agg (arr (Crc.be (Crc.sum (Fr.pOf bs)))))).run Tryz.prog w' = .ok (decide ([t0, t1, t2, t3] = Crc.be (Crc.sum (Fr.pOf bs)))) w' :=
        fun w' => eq_arr desc4 9998 [t0, t1, t2, t3] (Crc.be (Crc.sum (Fr.pOf bs))) rfl rfl w'
      obtain ⟨sb, Hsb⟩ : ∃ x, x = decide ([t0, t1, t2, t3] = Crc.be (Crc.sum (Fr.pOf bs))) := ⟨_, rfl⟩
      rw [← Hsb] at heq
      have HSB := Lib.hid Hsb; have Hpn := Lib.hid hpn; have Ht4 := Lib.hid ht4
      clear eq er hw1 hw2 z1 hwm Hbb HB Hsb hpn ht4 hrt hcl hr0 Hd8
      go_wp2_with fail
      go_cut [68] (fun s68 w' => s68 = .bool (!sb) ∧ Below wb.heap.size wb w')
      case first =>
        go_region_held3 (fun w' => (w'.cell? ⟨blk, off + q, none⟩ = some (V8 t0) ∧ w'.cell? ⟨blk, off + q + 1, none⟩ = some (V8 t1) ∧ w'.cell? ⟨blk, off + q + 2, none⟩ = some (V8 t2) ∧ w'.cell? ⟨blk, off + q + 3, none⟩ = some (V8 t3)) ∧ blk < wb.heap.size ∧ Below wb.heap.size wb w') ((rename (_ ∧ _) ∧ _ ∧ Below _ _ _ => hS; first | exact hS | exact c4_keep hS (Below.refl _ _).drew | exact c4_keep hS (Below.mono (by assumption) hS.2.2.size)))
          ((go_at_call 78; rename (_ ∧ _) ∧ _ ∧ Below _ _ _ => hS; refine (sum4_calls _ m _ B (Fr.pOf bs) _ (tabIn_of Htc.out hS.2.2) Hpn.out.symm (by unfold maxLen; omega) (Hrp.out.below hS.2.2 hBc) (Nat.le_trans hBc hS.2.2.size)).mono ?_; rintro e w' ⟨rfl, hb⟩))
        all_goals (rename (_ ∧ _) ∧ _ ∧ Below _ _ _ => hS; have HS := Lib.hid hS; clear hS; go_wp2_with fail; go_meet; exact ⟨rfl, HS.out.2.2⟩)
      case rest =>
        obtain ⟨rfl, hbd⟩ := hcut
        have Hbd := Lib.hid hbd; clear hbd
        clear k0 k1 k2 k3 hst hat heq
        have hsb := Hbc.out.size
        have hsd := Hbd.out.size
        have hg := (Hbd.out.block _ (show w.heap.size < wb.heap.size by omega)).trans ((Hbc.out.block _ hs0).trans Hg0.out)
        have Hwd := Lib.hid ((Hbw.out.trans (Hbc.out.mono (show w.heap.size ≤ W.heap.size by omega))).trans (Hbd.out.mono (show w.heap.size ≤ wb.heap.size by omega)))
        have hrow : IsRow wc w.heap.size 74 2 := ⟨_, hg, rfl⟩
        have Hg := Lib.hid hg; clear hg
        cases hsv : sb with
        | false =>
          subst hsv
          go_wp2_with fail
          refine bodyPost_ret (results_cell3 rfl _ _ w.heap.size 74 _ (0, 0) rfl (setRow_heap _ _ _ _ _ _ Hg.out) aggFrame sizeFrame) rfl ?_
          refine ⟨below_setRow Hwd.out (Nat.le_refl _) _, Or.inl ⟨?_, rfl⟩⟩
          rw [good_eq Hn.out h Htk.out Hko.out Hem.out, ← Heq.out, Ht4.out, ← HSB.out]; simp
        | true =>
          subst hsv
          have hmk := make_u8 m m (Nat.le_refl _) (by omega)
          have hrp := Hrp.out.below Hbd.out hBc
          have Hgood := Lib.hid (show Fr.good bs = true by
            rw [good_eq Hn.out h Htk.out Hko.out Hem.out, ← Heq.out, Ht4.out, ← HSB.out, ← HD.out, Hz1.out]; simp [z2, z3, z4])
          have hrs : ∃ Z : List Value, Z = (zeros8 m).toList := ⟨_, rfl⟩
          obtain ⟨Z, hZ⟩ := hrs
          have hZl : Z.length = m := by rw [hZ, Array.length_toList, zeros8_size]
          have hZa : Z.toArray = zeros8 m := by rw [hZ, Array.toArray_toList]
          have Hnew := Lib.hid (show (wc.alloc (.cells (zeros8 m) 5)).heap[wc.heap.size]? = some (.cells Z.toArray 5 (0, 0)) by rw [hZa]; exact heap_alloc_new _ _)
          have Hrn := Lib.hid (Rd.below (w' := wc.alloc (.cells (zeros8 m) 5)) hrp ((Below.refl wc.heap.size wc).alloc (Nat.le_refl _) _) (Nat.le_trans hBc hsd))
          clear hrp
          have hnl : ((Fr.pOf bs).map V8).length = m := by rw [List.length_map]; exact Hpn.out
          have Hnl := Lib.hid hnl; clear hnl hZ hZa
          have hpc : Cells1 #[.int .i64 (n8 b1 : Int), .slice (some ⟨wc.heap.size, 0, none⟩) m m] 2 := pair_cells _ _ _ _
          have hrm : (r : Int) = ((m + 12 : Nat) : Int) := by have := Heq.out; omega
          clear hrow
          go_wp2_with (
            with_reducible (refine wpList_copy_at (o := ⟨some 74, _, _, _, _, _⟩) (g := wc.heap.size) (cur := Z) (cs := (Fr.pOf bs).map V8) (off := 0) (t := 5) rfl (.tmp 72) (.tmp 73) rfl descU8s sizeU8 (dp := some ⟨wc.heap.size, 0, none⟩) (sp := some ⟨blk, off + 8, none⟩) (dLen := m) (dCap := m) (sLen := m) (sCap := cap - 8) (by simp [Act.eval, Act.put]) (by simp [Act.eval, Act.put]) Hnew.out (nat_min_l _ _ _ Hnl.out (Nat.le_refl _)) (rd_src Hrn.out) (by rw [Hnl.out, hZl]; omega) (v8_one _) ?_)
            intro w6 hg6 ho6
            have hx : splice Z 0 ((Fr.pOf bs).map V8) = (Fr.pOf bs).map V8 := by
              unfold splice
              rw [List.take_zero, List.nil_append, List.drop_eq_nil_of_le (by rw [Hnl.out, hZl]; omega), List.append_nil]
            rw [hx] at hg6
            have hb6 : Below w.heap.size w w6 := Hwd.out.trans (((Below.refl _ _).alloc (Hwd.out.size) _).trans (ho6.out.1.mono Hwd.out.size))
            have hgw : w6.heap[w.heap.size]? = some (.cells #[.int .i64 0, .slice none 0 0] 74 (0, 0)) :=
              (ho6.out.2 _ (by have := lt_heap Hg.out; omega)).trans ((Below.heap_alloc _ _ _ (lt_heap Hg.out)).trans Hg.out)
            have hne : wc.heap.size ≠ w.heap.size := by have := lt_heap Hg.out; omega
            have hrow6 : IsRow w6 w.heap.size 74 2 := ⟨_, hgw, rfl⟩
            have Hb6 := Lib.hid hb6; have Hgw := Lib.hid hgw
            clear hb6 hgw ho6 hx)
          refine bodyPost_ret (results_cell3 rfl _ _ w.heap.size 74 _ (0, 0) rfl (setRow_heap _ _ _ _ _ _ Hgw.out) aggFrame sizeFrame) rfl ?_
          have hgp : (w6.setRow w.heap.size #[.int .i64 (n8 b1 : Int), .slice (some ⟨wc.heap.size, 0, none⟩) m m]).heap[wc.heap.size]? = some (.cells ((Fr.pOf bs).map V8).toArray 5 (0, 0)) := by
            rw [setRow_other _ _ _ _ hne]; exact hg6.out
          refine ⟨below_setRow Hb6.out (Nat.le_refl _) _, Or.inr ⟨Hgood.out, some ⟨wc.heap.size, 0, none⟩, m, ?_, ?_⟩⟩
          · rw [← Hem.out, Hko.out]; rfl
          · rw [← Hem.out]
            refine ⟨by rw [Nat.mul_one]; exact Hnl.out, Or.inr ⟨_, _, _, rfl, Hwd.out.size, hgp, Nat.le_refl _, by unfold maxLen; omega, ?_, ?_⟩⟩
            · rw [Nat.mul_one, List.size_toArray]; exact Hnl.out
            · rw [Nat.mul_one]; exact List.take_of_length_le (by rw [Hnl.out]; omega)
def encL (k : Int) (bs : List (BitVec 8)) : List (BitVec 8) := if isK k = true ∧ bs.length ≤ 1024 then Fr.encode (BitVec.ofInt 8 k) bs else []
def encE (k : Int) (bs : List (BitVec 8)) : Int := if isK k = true then if bs.length ≤ 1024 then 0 else 31 else 30
/-- What a call of Encode answers. -/
def EncAns (k : Int) (bs : List (BitVec 8)) (w : World) (e : Ending) (w' : World) : Prop :=
  Below w.heap.size w w' ∧ ∃ A' cap', e = .returned (.tuple #[.slice A' (encL k bs).length cap', .int .i64 (encE k bs)]) ∧
    w'.ownsRow w.heap.size 5 1 (.slice A' (encL k bs).length cap') (encL k bs).length ((encL k bs).map V8)
theorem own_none (w : World) (base : Nat) (t : TypeId) : w.ownsRow base t 1 (.slice none 0 0) 0 [] := ⟨rfl, Or.inl ⟨rfl, rfl⟩⟩
theorem kb_of {k : Int} (h : isK k = true) : k = (n8 (BitVec.ofInt 8 k) : Int) := by
  have : k = 1 ∨ k = 2 ∨ k = 3 := by simp [isK] at h; omega
  rcases this with rfl | rfl | rfl <;> rfl
theorem encAns_bad {k : Int} {bs : List (BitVec 8)} {w w' : World} {e : Ending} {r : Int} (h1 : encL k bs = []) (h2 : encE k bs = r) (h : e = .returned (.tuple #[.slice none 0 0, .int .i64 r])) (hb : Below w.heap.size w w') : EncAns k bs w e w' := by
  refine ⟨hb, none, 0, ?_, ?_⟩
  · rw [h1, h2]; exact h
  · rw [h1]; exact own_none _ _ _
theorem encAns_good {k : Int} {bs : List (BitVec 8)} {w w' : World} {e : Ending} {n : Nat} {A' : Option Addr} {cap' : Nat} (hn : n = bs.length) (hk : isK k = true) (hm : n ≤ 1024)
    (h : e = .returned (.tuple #[.slice A' (n + 12) cap', .int .i64 0])) (ho : w'.ownsRow w.heap.size 5 1 (.slice A' (n + 12) cap') (n + 12) ((Fr.encode (BitVec.ofInt 8 k) bs).map V8)) (hb : Below w.heap.size w w') : EncAns k bs w e w' := by
  have h1 : encL k bs = Fr.encode (BitVec.ofInt 8 k) bs := by unfold encL; rw [if_pos ⟨hk, by omega⟩]
  have h2 : encE k bs = 0 := by unfold encE; rw [if_pos hk, if_pos (by omega)]
  have hl : (Fr.encode (BitVec.ofInt 8 k) bs).length = n + 12 := by rw [Fr.encode_length, hn]
  refine ⟨hb, A', cap', ?_, ?_⟩
  · rw [h1, h2, hl]; exact h
  · rw [h1, hl]; exact ho
theorem encode_any (k : Int) (A : Option Addr) (n cap B : Nat) (bs : List (BitVec 8)) (w : World) (hn : n = bs.length) (hr : Rd w B A (bs.map V8)) (hB : B ≤ w.heap.size) (ht : TabIn w) :
    Calls Tryz.prog 27 #[VF k A n cap] w (EncAns k bs w) := by
  cases hk : isK k with
  | false =>
    refine (encode_bad k A n cap w hk).mono ?_
    rintro e w' ⟨rfl, hb⟩
    exact encAns_bad (by unfold encL; rw [if_neg (by rw [hk]; simp)]) (by unfold encE; rw [hk]; rfl) rfl hb
  | true =>
    by_cases hm : n ≤ 1024
    · refine (encode_good k (BitVec.ofInt 8 k) A n cap B bs w hk (kb_of hk) hn hm hr hB ht).mono ?_
      rintro e w' ⟨A', cap', rfl, ho, hb⟩
      exact encAns_good hn hk hm rfl ho hb
    · refine (encode_long k A n cap w hk (by omega)).mono ?_
      rintro e w' ⟨rfl, hb⟩
      exact encAns_bad (by unfold encL; rw [if_neg (by omega)]) (by unfold encE; rw [if_pos hk, if_neg (by omega)]) rfl hb
theorem rencode_any (k : Int) (A : Option Addr) (n cap B : Nat) (bs : List (BitVec 8)) (w : World) (hn : n = bs.length) (hnil : A = none → n = 0 ∧ cap = 0) (hr : Rd w B A (bs.map V8)) (hB : B ≤ w.heap.size) :
    Calls Tryz.prog 28 #[VF k A n cap] w (EncAns k bs w) := by
  cases hk : isK k with
  | false =>
    refine (rencode_bad k A n cap w hk).mono ?_
    rintro e w' ⟨rfl, hb⟩
    exact encAns_bad (by unfold encL; rw [if_neg (by rw [hk]; simp)]) (by unfold encE; rw [hk]; rfl) rfl hb
  | true =>
    by_cases hm : n ≤ 1024
    · refine (rencode_good k (BitVec.ofInt 8 k) A n cap B bs w hk (kb_of hk) hn hm hnil hr hB).mono ?_
      rintro e w' ⟨A', cap', rfl, ho, hb⟩
      exact encAns_good hn hk hm rfl ho hb
    · refine (rencode_long k A n cap w hk (by omega)).mono ?_
      rintro e w' ⟨rfl, hb⟩
      exact encAns_bad (by unfold encL; rw [if_neg (by omega)]) (by unfold encE; rw [if_pos hk, if_neg (by omega)]) rfl hb
attribute [local go_sem ↓] loadF storeF
attribute [local go_sem] isLoadOf loadArg isRowAt_ptr rowAt_ptr blkOf_ptr aggOf_agg isAggV_agg isRow_alloc_new pair_cells
theorem own_setRow {w : World} {base : Nat} {t : TypeId} {v : Value} {n : Nat} {xs : List Value} (h : w.ownsRow base t 1 v n xs) (g : Nat) (cs : Array Value) (hg : g < base) : (w.setRow g cs).ownsRow base t 1 v n xs := by
  refine ⟨h.1, ?_⟩
  rcases h.2 with hn | ⟨g', cap, cur, hv, hb, hgg, rest⟩
  · exact Or.inl hn
  · exact Or.inr ⟨g', cap, cur, hv, hb, by rw [setRow_other _ _ _ _ (by omega)]; exact hgg, rest⟩
theorem rd_take8 {w : World} {B blk off : Nat} {bs : List (BitVec 8)} (h : Rd w B (some ⟨blk, off, none⟩) (bs.map V8)) (n : Nat) : Rd w B (some ⟨blk, off, none⟩) ((bs.take n).map V8) := by
  have := rd_sub8 h 0 n
  simpa using this
abbrev FrL := List (BitVec 8 × List (BitVec 8))
/-- The cells of a slice of frames, each payload in memory of its own. -/
def FrSl (w : World) (base : Nat) (cells : List Value) (fs : FrL) : Prop :=
  cells.length = fs.length * 2 ∧ (∀ (i : Nat) (k : BitVec 8) (p : List (BitVec 8)), fs[i]? = some (k, p) → ∃ A cap, cells[2 * i]? = some (.int .i64 (n8 k : Int)) ∧ cells[2 * i + 1]? = some (.slice A p.length cap) ∧
    w.ownsRow base 5 1 (.slice A p.length cap) p.length (p.map V8)) ∧
  ∀ (i j : Nat) (a b : Value), i < j → cells[2 * i + 1]? = some a → cells[2 * j + 1]? = some b → ∀ g, a.ownBlock = some g → b.ownBlock ≠ some g
theorem FrSl.nil (w : World) (base : Nat) : FrSl w base [] [] := ⟨rfl, fun i k p h => by simp at h, fun i j a b _ h => by simp at h⟩
theorem FrSl.low {w : World} {base : Nat} {cells : List Value} {fs : FrL} (h : FrSl w base cells fs) (i : Nat) (a : Value) (hi : cells[2 * i + 1]? = some a) (g : Nat) (hg : a.ownBlock = some g) : g < w.heap.size := by
  have h1 : i < fs.length := by
    have := (List.getElem?_eq_some_iff.1 hi).1
    have := h.1; omega
  obtain ⟨A, cap, _, e, ho⟩ := h.2.1 i _ _ (List.getElem?_eq_getElem h1)
  rw [hi] at e
  injection e with e
  subst e
  exact (ho.lt g hg).2
theorem FrSl.snoc {w : World} {base : Nat} {cells : List Value} {fs : FrL} (h : FrSl w base cells fs) {k : BitVec 8} {p : List (BitVec 8)} {A : Option Addr} {cap : Nat} (ho : w.ownsRow base 5 1 (.slice A p.length cap) p.length (p.map V8)) (hnw : ∀ (i : Nat) (a : Value), cells[2 * i + 1]? = some a → ∀ g, a.ownBlock = some g → (Value.slice A p.length cap).ownBlock ≠ some g) :
    FrSl w base (cells ++ [.int .i64 (n8 k : Int), .slice A p.length cap]) (fs ++ [(k, p)]) := by
  refine ⟨by simp [h.1]; omega, fun i k' p' hi => ?_, fun i j a b hij ha hb g hg => ?_⟩
  rotate_left
  · have hj := (List.getElem?_eq_some_iff.1 hb).1
    rw [List.length_append, h.1] at hj
    simp only [List.length_cons, List.length_nil] at hj
    have ha' : cells[2 * i + 1]? = some a := by
      rw [List.getElem?_append_left (by rw [h.1]; omega)] at ha; exact ha
    rcases Nat.lt_or_ge j fs.length with hl | hl
    · rw [List.getElem?_append_left (by rw [h.1]; omega)] at hb
      exact h.2.2 i j a b hij ha' hb g hg
    · obtain rfl : j = fs.length := by omega
      rw [List.getElem?_append_right (by rw [h.1]; omega), h.1, show 2 * fs.length + 1 - fs.length * 2 = 1 by omega] at hb
      simp at hb
      subst hb
      exact hnw i a ha' g hg
  rcases Nat.lt_trichotomy i fs.length with hl | hl | hl
  · rw [List.getElem?_append_left hl] at hi
    obtain ⟨A', cap', a, b, c⟩ := h.2.1 i k' p' hi
    refine ⟨A', cap', ?_, ?_, c⟩
    · rw [List.getElem?_append_left (by rw [h.1]; omega)]; exact a
    · rw [List.getElem?_append_left (by rw [h.1]; omega)]; exact b
  · subst hl
    simp at hi
    obtain ⟨rfl, rfl⟩ := hi
    refine ⟨A, cap, ?_, ?_, ho⟩
    · rw [List.getElem?_append_right (by rw [h.1]; omega), h.1, show 2 * fs.length - fs.length * 2 = 0 by omega]; rfl
    · rw [List.getElem?_append_right (by rw [h.1]; omega), h.1, show 2 * fs.length + 1 - fs.length * 2 = 1 by omega]; rfl
  · rw [List.getElem?_eq_none (by simp; omega)] at hi; cases hi
theorem FrSl.go {w w' : World} {base : Nat} {cells : List Value} {fs : FrL} (h : FrSl w base cells fs)
    (hg : ∀ (A : Option Addr) (n cap : Nat) (xs : List Value), w.ownsRow base 5 1 (.slice A n cap) n xs → w'.ownsRow base 5 1 (.slice A n cap) n xs) : FrSl w' base cells fs :=
  ⟨h.1, fun i k p hi => by obtain ⟨A, cap, a, b, c⟩ := h.2.1 i k p hi; exact ⟨A, cap, a, b, hg _ _ _ _ c⟩, h.2.2⟩
theorem FrSl.below {w w' : World} {base B : Nat} {cells : List Value} {fs : FrL} (h : FrSl w base cells fs) (hb : Below B w w') (hB : w.heap.size ≤ B) : FrSl w' base cells fs :=
  h.go fun _ _ _ _ ho => own_below ho hb hB
/-- An append to a row of another type leaves a row as it was. -/
theorem own_grown_other {w w' : World} {base base2 s2 : Nat} {t t2 : TypeId} {v v2 : Value} {n n2 : Nat} {xs xs2 : List Value} (h : w.ownsRow base t 1 v n xs) (h2 : w.ownsRow base2 t2 s2 v2 n2 xs2) (hne : t ≠ t2) (hg : w.grownBy w' v2.ownBlock) : w'.ownsRow base t 1 v n xs := by
  refine h.kept hg ?_
  rcases h.2 with ⟨rfl, _⟩ | ⟨g, cap, cur, rfl, _, hgg, _⟩
  · exact Or.inl rfl
  · right
    rcases h2.2 with ⟨rfl, _⟩ | ⟨g2, cap2, cur2, rfl, _, hgg2, _⟩
    · simp [Value.ownBlock]
    · simp only [Value.ownBlock, ne_eq, Option.some.injEq]
      intro hc; subst hc; rw [hgg] at hgg2; injection hgg2 with hq; injection hq with _ hq _; exact hne hq
theorem infoFr : (Tryz.prog.info? 74).map (fun i => (i.zero, i.size, i.bytes)) = some (some (.agg #[.int .i64 0, .slice none 0 0]), 2, 32) := by kernel_rfl
theorem descFrs : Tryz.prog.underlying 71 = some (.slice 74) := by kernel_rfl
theorem rd_drop8 {w : World} {B blk off : Nat} {bs : List (BitVec 8)} (h : Rd w B (some ⟨blk, off, none⟩) (bs.map V8)) (o : Nat) : Rd w B (some ⟨blk, off + o, none⟩) ((bs.drop o).map V8) := by
  have := rd_sub8 h o (bs.drop o).length
  rwa [List.take_length] at this
/-- What a call of Row answers. -/
def RowAns (bs : List (BitVec 8)) (w : World) (e : Ending) (w' : World) : Prop :=
  Below w.heap.size w w' ∧ ∃ A' cap' cells, e = .returned (.tuple #[.slice A' (Fr.rows bs.length bs).length cap', .int .i64 (Fr.rowsAt bs.length bs : Int), .int .i64 (if Fr.rowsAt bs.length bs = bs.length then 0 else 32)]) ∧
    w'.ownsRow w.heap.size 74 2 (.slice A' (Fr.rows bs.length bs).length cap') (Fr.rows bs.length bs).length cells ∧ FrSl w' w.heap.size cells (Fr.rows bs.length bs)
theorem own_size {w : World} {base s : Nat} {t : TypeId} {v : Value} {n : Nat} {xs : List Value} (h : w.ownsRow base t s v n xs) : ∃ A cap, v = .slice A n cap := by
  rcases h.2 with ⟨rfl, rfl⟩ | ⟨g, cap, cur, rfl, _⟩
  · exact ⟨_, _, rfl⟩
  · exact ⟨_, _, rfl⟩
theorem own_below_s {w w' : World} {base s : Nat} {t : TypeId} {v : Value} {n : Nat} {xs : List Value} {B : Nat} (h : w.ownsRow base t s v n xs) (hb : Below B w w') (hB : w.heap.size ≤ B) : w'.ownsRow base t s v n xs :=
  h.kept (row := none) ⟨hb.os, hb.tape, hb.output, hb.size, fun k hk _ => hb.block k (Nat.lt_of_lt_of_le hk hB)⟩ (by cases hv : v.ownBlock <;> simp)
attribute [local go_sem ↓] loadF storeF
attribute [local go_sem] isLoadOf loadArg isRowAt_ptr rowAt_ptr blkOf_ptr aggOf_agg isAggV_agg isRow_alloc_new pair_cells
set_option maxHeartbeats 4000000 in
theorem row_calls (A : Option Addr) (n cap B : Nat) (bs : List (BitVec 8)) (w : World) (hn : n = bs.length) (hm : n ≤ 1099511627776) (hr : Rd w B A (bs.map V8)) (hB : B ≤ w.heap.size) (hcp : n ≤ cap) (hcm : cap ≤ maxLen) (ht : TabIn w) :
    Calls Tryz.prog 32 #[.slice A n cap] w (RowAns bs w) := by
  obtain ⟨i0, hi, hz0, hz1, hz2⟩ := info_parts infoFr
  have Hi := Lib.hid hi; clear hi
  have Hr := Lib.hid hr; have Hn := Lib.hid hn; have Ht := Lib.hid ht
  unfold maxLen at hcm
  clear hr hn ht
  go_enter Tryz.func32, Tryz.ntmps32
  go_wp2_with fail
  go_loopw [5, 6] (fun l at' wr => ∃ (a f : Nat) (fs : FrL) (cells : List Value), at' = .int .i64 (a : Int) ∧ a ≤ n ∧ n ≤ a + f ∧ Fr.rows bs.length bs = fs ++ Fr.rows f (bs.drop a) ∧ Fr.rowsAt bs.length bs = a + Fr.rowsAt f (bs.drop a) ∧ fs.length * 12 ≤ a ∧
      wr.ownsRow w.heap.size 74 2 l fs.length cells ∧ FrSl wr w.heap.size cells fs ∧ Below w.heap.size w wr) (fun _ i _ => n - (intOf i).toNat)
  case atStart =>
    exact ⟨0, n, [], [], rfl, by omega, by omega, by rw [Hn.out]; rfl, by rw [Hn.out]; simp, by simp, ⟨rfl, Or.inl ⟨rfl, rfl⟩⟩, FrSl.nil _ _, Below.refl _ _⟩
  case round =>
    obtain ⟨a, f, fs, cells, rfl, ha, hf, hrows, hat, hfs, hown, hsl, hbl⟩ := hrel
    obtain ⟨A', cap', rfl⟩ := own_size hown
    have Hrows := Lib.hid hrows; have Hat := Lib.hid hat; have Hown := Lib.hid hown; have Hsl := Lib.hid hsl; have Hbl := Lib.hid hbl
    have hsz := hbl.size
    clear hrows hat hown hsl hbl
    by_cases hlt : a < n
    · obtain ⟨blk, off, rfl, hblk, _⟩ := Hr.out.at_ (k := 0) (by rw [List.length_map, ← Hn.out]; omega)
      obtain ⟨f, rfl⟩ : ∃ f', f = f' + 1 := ⟨f - 1, by omega⟩
      have hai : (a : Int) < (n : Int) := by omega
      have hac : (a : Int) ≤ (cap : Int) := by omega
      have hne : (cap = a) = False := by rw [eq_iff_iff]; constructor <;> intro hx <;> first | omega | cases hx
      have Hrd := Lib.hid (rd_drop8 (Hr.out.below Hbl.out hB) a)
      have Hdl := Lib.hid (show n - a = (bs.drop a).length by rw [List.length_drop, ← Hn.out])
      go_wp2_with fail
      refine (decode_calls (some ⟨blk, off + a, none⟩) (n - a) (cap - a) B (bs.drop a) _ Hdl.out (by unfold maxLen; omega) Hrd.out (by omega) (by omega) (tabIn_of Ht.out Hbl.out)).mono ?_
      rintro e w2 ⟨hb2, hans⟩
      have hs2 := hb2.size
      have Hbl2 := Lib.hid (Hbl.out.trans (hb2.mono hsz))
      have Hown2 := Lib.hid (own_below_s Hown.out hb2 (Nat.le_refl _))
      have Hsl2 := Lib.hid (Hsl.out.below hb2 (Nat.le_refl _))
      clear hb2
      rcases hans with ⟨hg, rfl⟩ | ⟨hg, A2, cap2, rfl, hown2⟩
      · have Hr0 := Lib.hid (Fr.rows_bad (f := f + 1) hg); have Ha0 := Lib.hid (Fr.rowsAt_bad (f := f + 1) hg)
        clear hg
        go_wp2_with fail
        go_ret3
        refine ⟨Hbl2.out.trans ?_, A', cap', cells, ?_, ?_, ?_⟩
        · exact below_setRow ((Below.refl _ _).alloc Hbl2.out.size _) Hbl2.out.size _
        · rw [Hrows.out, Hat.out, Hr0.out, Ha0.out, List.append_nil, Nat.add_zero, if_neg (by rw [← Hn.out]; omega)]; rfl
        · rw [Hrows.out, Hr0.out, List.append_nil]
          exact own_below_s Hown2.out (below_setRow ((Below.refl _ _).alloc (Nat.le_refl _) _) (Nat.le_refl _) _) (Nat.le_refl _)
        · rw [Hrows.out, Hr0.out, List.append_nil]
          exact Hsl2.out.below (below_setRow ((Below.refl _ _).alloc (Nat.le_refl _) _) (Nat.le_refl _) _) (Nat.le_refl _)
      · have hgl := Fr.good_len hg
        rw [← Hdl.out] at hgl
        have hg1 := Fr.good_nOf hg
        have Hr1 := Lib.hid (Fr.rows_good (f := f) hg); have Ha1 := Lib.hid (Fr.rowsAt_good (f := f) hg)
        have hpl := Fr.pOf_length (b := bs.drop a) (by rw [← Hdl.out]; omega)
        have Hpl := Lib.hid hpl
        obtain ⟨p, hp⟩ : ∃ p, p = Fr.pOf (bs.drop a) := ⟨_, rfl⟩
        obtain ⟨m, hmm⟩ : ∃ m, m = Fr.nOf (bs.drop a) := ⟨_, rfl⟩
        obtain ⟨kb, hkb⟩ : ∃ kb, kb = Fr.kOf (bs.drop a) := ⟨_, rfl⟩
        rw [← hp, ← hmm] at Hpl
        rw [← hp, ← hmm, ← hkb] at Hr1
        rw [← hmm] at Ha1
        rw [← hmm] at hgl hg1
        rw [← hp, ← hmm] at hown2
        rw [← hmm, ← hkb]
        have Hown3 := Lib.hid (own_base hown2 (show w.heap.size ≤ _ from hsz))
        have Hnw := Lib.hid (show ∀ (i : Nat) (x : Value), cells[2 * i + 1]? = some x → ∀ g, x.ownBlock = some g → (Value.slice A2 m cap2).ownBlock ≠ some g from fun i x hx g hg2 he => by
          have h1 := Hsl.out.low i x hx g hg2
          have h2 := (hown2.lt g he).1
          omega)
        clear hp hmm hkb hg hown2 hpl
        have hpc : Cells1 #[.int .i64 (n8 kb : Int), .slice A2 m cap2] 2 := pair_cells _ _ _ _
        have hh3 : ((w2.alloc (.cells #[.int .i64 0, .slice none 0 0] 74)).setRow w2.heap.size #[.int .i64 (n8 kb : Int), .slice A2 m cap2]).heap[w2.heap.size]? = some (.cells #[.int .i64 (n8 kb : Int), .slice A2 m cap2] 74 (0, 0)) :=
          setRow_heap _ _ _ _ _ _ (heap_alloc_new _ _)
        have hrow3 : IsRow ((w2.alloc (.cells #[.int .i64 0, .slice none 0 0] 74)).setRow w2.heap.size #[.int .i64 (n8 kb : Int), .slice A2 m cap2]) w2.heap.size 74 2 := ⟨_, hh3, rfl⟩
        have hro3 := rowOf_eq hh3
        have hb3 : Below w2.heap.size w2 (((w2.alloc (.cells #[.int .i64 0, .slice none 0 0] 74)).setRow w2.heap.size #[.int .i64 (n8 kb : Int), .slice A2 m cap2]).alloc (.cells #[.int .i64 (n8 kb : Int), .slice A2 m cap2] 74)) :=
          (below_setRow ((Below.refl _ _).alloc (Nat.le_refl _) _) (Nat.le_refl _) _).alloc (by simp) _
        have hnew : (((w2.alloc (.cells #[.int .i64 0, .slice none 0 0] 74)).setRow w2.heap.size #[.int .i64 (n8 kb : Int), .slice A2 m cap2]).alloc (.cells #[.int .i64 (n8 kb : Int), .slice A2 m cap2] 74)).heap[w2.heap.size + 1]? = some (.cells #[.int .i64 (n8 kb : Int), .slice A2 m cap2] 74 (0, 0)) := by
          have := heap_alloc_new ((w2.alloc (.cells #[.int .i64 0, .slice none 0 0] 74)).setRow w2.heap.size #[.int .i64 (n8 kb : Int), .slice A2 m cap2]) (.cells #[.int .i64 (n8 kb : Int), .slice A2 m cap2] 74)
          simpa using this
        have Hc1 := Lib.hid (show ∀ (j : Nat) (u : Value), [.int .i64 (n8 kb : Int), .slice A2 m cap2][j]? = some u → (((w2.alloc (.cells #[.int .i64 0, .slice none 0 0] 74)).setRow w2.heap.size #[.int .i64 (n8 kb : Int), .slice A2 m cap2]).alloc (.cells #[.int .i64 (n8 kb : Int), .slice A2 m cap2] 74)).cell? ((⟨w2.heap.size + 1, 0, none⟩ : Addr).add j) = some u from fun j u hu => by
          rw [Addr.add_lit, Nat.zero_add, cell_heap hnew]; simpa using hu)
        have Hb3 := Lib.hid hb3
        have Hown4 := Lib.hid (own_below_s Hown2.out hb3 (Nat.le_refl _))
        have hs3 := hb3.size
        have hwf : IntKind.i64.wrap ((a : Int) + ((m : Int) + 12)) = (a : Int) + ((m : Int) + 12) := IntWalk.i64_in _ (by omega)
        have hone : ∀ u ∈ ([.int .i64 (n8 kb : Int), .slice A2 m cap2] : List Value), u.oneCell' = true := by intro u hu; simp at hu; rcases hu with rfl | rfl <;> rfl
        have Hone := Lib.hid hone
        have hsb : w.heap.size ≤ (((w2.alloc (.cells #[.int .i64 0, .slice none 0 0] 74)).setRow w2.heap.size #[.int .i64 (n8 kb : Int), .slice A2 m cap2]).alloc (.cells #[.int .i64 (n8 kb : Int), .slice A2 m cap2] 74)).heap.size := by omega
        have Hsb := Lib.hid hsb
        clear hh3 hb3 hnew hone hsb hs3
        go_wp2_with (at_builtin; refine wpList_append_own _ rfl _ _ 71 rfl w.heap.size 74 i0 _ 2 32 descFrs Hi.out hz0 hz1 hz2 rfl (by decide) _ fs.length cells rfl Hown4.out ⟨w2.heap.size + 1, 0, none⟩ 1 1 [.int .i64 (n8 kb : Int), .slice A2 m cap2] rfl rfl Hc1.out Hone.out (by unfold maxLen; omega) (by omega) Hsb.out ?_; intro v5 w5 hown5 hg5 _; obtain ⟨A5, cap5, rfl⟩ := own_size hown5)
        have hg6 := show World.grownBy _ w5 (Value.slice A' fs.length cap').ownBlock from hg5
        have hne5 : (5 : Nat) ≠ 74 := by decide
        have hsl5 := ((Hsl2.out.below Hb3.out (Nat.le_refl _)).go fun _ _ _ _ ho => own_grown_other ho Hown4.out hne5 hg6).snoc (k := kb) (p := p) (A := A2) (cap := cap2) (by
          rw [Hpl.out]; exact own_grown_other (own_below Hown3.out Hb3.out (Nat.le_refl _)) Hown4.out hne5 hg6) (by rw [Hpl.out]; exact Hnw.out)
        have hb5 : Below w.heap.size w w5 := (Hbl2.out.trans (Hb3.out.mono Hbl2.out.size)).grown hg6 Hsb.out fun k hk => (Hown4.out.lt k hk).1
        have Hsl5 := Lib.hid hsl5; have Hb5 := Lib.hid hb5; have Hown5 := Lib.hid hown5
        clear hsl5 hb5 hown5 hg5 hg6 hrow3 hro3 hpc hne5
        go_wp2_with fail
        go_roundw
        case rel =>
          refine ⟨a + (m + 12), f, fs ++ [(kb, p)], cells ++ [.int .i64 (n8 kb : Int), .slice A2 m cap2], ?_, by omega, by omega, ?_, ?_, ?_, ?_, ?_, Hb5.out⟩
          · congr 1
          · rw [Hrows.out, Hr1.out, List.append_assoc, List.drop_drop]; rfl
          · rw [Hat.out, Ha1.out, List.drop_drop]; omega
          · rw [List.length_append]; show (fs.length + 1) * 12 ≤ _; omega
          · rw [List.length_append]; exact Hown5.out
          · have := Hsl5.out; rw [Hpl.out] at this; exact this
        case measure => simp [intOf]; omega
    · go_wp2_with fail
      go_ret3
      have han : a = n := by omega
      subst han
      have hd : bs.drop a = [] := List.drop_eq_nil_of_le (by rw [Hn.out]; exact Nat.le_refl _)
      have hr0 := Hrows.out; have ha0 := Hat.out
      rw [hd, Fr.rows_nil, List.append_nil] at hr0
      rw [hd, Fr.rowsAt_nil, Nat.add_zero] at ha0
      refine ⟨Hbl.out, A', cap', cells, ?_, ?_, ?_⟩
      · rw [hr0, ha0, if_pos Hn.out]; rfl
      · rw [hr0]; exact Hown.out
      · rw [hr0]; exact Hsl.out
attribute [local go_sem ↓] loadF storeF
attribute [local go_sem] isLoadOf loadArg isRowAt_ptr rowAt_ptr blkOf_ptr aggOf_agg isAggV_agg isRow_alloc_new pair_cells
attribute [local go_sem ↓] loadF storeF
attribute [local go_sem] isLoadOf loadArg isRowAt_ptr rowAt_ptr blkOf_ptr aggOf_agg isAggV_agg isRow_alloc_new pair_cells
theorem num_calls (x : Int) (w : World) (h0 : 0 ≤ x) (h1 : x ≤ 100) :
    Calls Tryz.prog 30 #[.int .i64 x] w fun e w' => e = .returned (.int .i64 x) ∧ w = w' := by
  have h : IntKind.i64.wrap x = x := IntWalk.i64_in _ (by omega)
  go_enter Tryz.func30, Tryz.ntmps30
  go_wp2
  go_ret
  exact ⟨rfl, rfl⟩
theorem results_cell1 {P : Program} {fn : Func} {p : Tmp} {ty : TypeId} (h : fn.results = #[.cell p ty]) (tmps : Array Value) (w : World) (g : Nat) (t : TypeId) (cs : Array Value) (fr : Nat × Nat)
    (hp : tmps.getD p undef = .pointer (some ⟨g, 0, none⟩)) (hg : w.heap[g]? = some (.cells cs t fr)) (hu : (P.underlying ty).map aggDesc = some true) (hi : (P.info? ty).map (·.size) = some cs.size) :
    (results fn tmps).run P w = .ok (.agg cs) w := by
  obtain ⟨d, h1, h2⟩ := agg_of hu
  exact results_cell_row h tmps w g t cs fr d hp hg h1 (by cases d <;> simp_all [aggDesc]) hi
theorem isRow_kept {W w' : World} {g : Nat} {cs : Array Value} {t n : Nat} (hb : Below W.drew.heap.size W.drew w') (h : W.heap[g]? = some (.cells cs t (0, 0))) (hs : cs.size = n) : IsRow w' g t n :=
  ⟨cs, (hb.block _ (lt_heap h)).trans h, hs⟩
theorem c2_keep {W w' w'' : World} {g B : Nat} {x y : Value} (h : (w'.cell? ⟨g, 0, none⟩ = some x ∧ w'.cell? ⟨g, 1, none⟩ = some y) ∧ g < B ∧ Below B W w') (hb : Below B w' w'') :
    (w''.cell? ⟨g, 0, none⟩ = some x ∧ w''.cell? ⟨g, 1, none⟩ = some y) ∧ g < B ∧ Below B W w'' :=
  ⟨⟨(hb.cell (p := ⟨g, 0, none⟩) h.2.1).trans h.1.1, (hb.cell (p := ⟨g, 1, none⟩) h.2.1).trans h.1.2⟩, h.2.1, h.2.2.trans hb⟩
set_option maxHeartbeats 1000000 in
theorem frame_calls (k : Int) (A : Option Addr) (n cap B : Nat) (bs : List (BitVec 8)) (w : World) (hn : n = bs.length) (hm : n ≤ 140737488351232) (hnil : A = none → n = 0 ∧ cap = 0) (hB : B ≤ w.heap.size) (hr : Rd w B A (bs.map V8)) :
    Calls Tryz.prog 176 #[VF k A n cap] w fun e w' => Below w.heap.size w w' ∧ ∃ A' cap', e = .returned (VF k A' n cap') ∧ w'.ownsRow w.heap.size 5 1 (.slice A' n cap') n (bs.map V8) := by
  have Hr := Lib.hid hr; have Hn := Lib.hid hn; have Hnil := Lib.hid hnil
  clear hr hn hnil
  go_enter Tryz.func176, Tryz.ntmps176
  go_wp2_with fail
  have hb0 := heap2_a w (Obj.cells #[Value.int IntKind.i64 k, Value.slice A n cap] 74) (Obj.cells #[.int .i64 0, .slice none 0 0] 74)
  have hb1 := heap2_b w (Obj.cells #[Value.int IntKind.i64 k, Value.slice A n cap] 74) (Obj.cells #[.int .i64 0, .slice none 0 0] 74)
  have hal : Below w.heap.size w ((w.alloc (Obj.cells #[Value.int IntKind.i64 k, Value.slice A n cap] 74)).alloc (Obj.cells #[.int .i64 0, .slice none 0 0] 74)) :=
    ((Below.refl _ _).alloc (Nat.le_refl _) _).alloc (by simp) _
  generalize (w.alloc (Obj.cells #[Value.int IntKind.i64 k, Value.slice A n cap] 74)).alloc (Obj.cells #[.int .i64 0, .slice none 0 0] 74) = W at *
  have s1 := lt_heap hb1
  have c0 : W.cell? ⟨w.heap.size, 0, none⟩ = some (.int .i64 k) := by rw [cell_heap hb0]; rfl
  have c1 : W.cell? ⟨w.heap.size, 1, none⟩ = some (.slice A n cap) := by rw [cell_heap hb0]; rfl
  have Hal := Lib.hid hal; have H1 := Lib.hid hb1
  have Hr1 := Lib.hid (Hr.out.below hal hB)
  clear hal hb0 hb1
  have hst : (W.cell? ⟨w.heap.size, 0, none⟩ = some (.int .i64 k) ∧ W.cell? ⟨w.heap.size, 1, none⟩ = some (.slice A n cap)) ∧ w.heap.size < w.heap.size + 1 ∧ Below (w.heap.size + 1) W W := ⟨⟨c0, c1⟩, by omega, Below.refl _ _⟩
  have hw1 : w.heap.size + 1 ≤ W.heap.size := by omega
  go_region_held3 (fun w' => (w'.cell? ⟨w.heap.size, 0, none⟩ = some (.int .i64 k) ∧ w'.cell? ⟨w.heap.size, 1, none⟩ = some (.slice A n cap)) ∧ w.heap.size < w.heap.size + 1 ∧ Below (w.heap.size + 1) W w')
    ((rename (_ ∧ _) ∧ _ ∧ Below _ _ _ => hS; first
      | exact hS
      | exact c2_keep hS (Below.refl _ _).drew
      | exact c2_keep hS (Below.mono (by assumption) hw1)
      | exact c2_keep hS (below_setRow (Below.refl _ _) (Nat.le_refl _) _)))
    ((go_at_call 10; refine (bytes_calls A n cap B bs _ Hn.out hm Hnil.out (by show B ≤ W.heap.size; omega) (Hr1.out.below (Below.refl _ _).drew (by omega))).mono ?_; rintro e w' ⟨A', cap', rfl, hown, hb⟩; have hrow : IsRow w' (w.heap.size + 1) 74 2 := isRow_kept hb H1.out rfl; have hpc : Cells1 #[.int .i64 k, .slice A' n cap'] 2 := pair_cells _ _ _ _))
  rename (_ ∧ _) ∧ _ ∧ Below _ _ (World.setRow _ _ _) => hF
  have HF := Lib.hid hF.2.2
  have hg := (hb.block _ s1).trans H1.out
  have Hg := Lib.hid hg; have Hown := Lib.hid hown
  clear hF hown hb hst hrow hg
  go_wp2_with fail
  refine bodyPost_ret (results_cell1 rfl _ _ (w.heap.size + 1) 74 _ (0, 0) rfl (setRow_heap _ _ _ _ _ _ Hg.out) aggFrame sizeFrame) rfl ?_
  refine ⟨Hal.out.trans (HF.out.mono (by omega)), A', cap', rfl, ?_⟩
  exact own_base (own_setRow Hown.out _ _ s1) (show w.heap.size ≤ W.heap.size by omega)
set_option maxHeartbeats 1000000 in
theorem sameF_calls (k k' : Int) (A A' : Option Addr) (n cap n' cap' B B' : Nat) (bs bs' : List (BitVec 8)) (w : World) (hn : n = bs.length) (hn' : n' = bs'.length) (hnil : A = none → n = 0) (hnil' : A' = none → n' = 0)
    (hr : Rd w B A (bs.map V8)) (hr' : Rd w B' A' (bs'.map V8)) (hB : B ≤ w.heap.size) (hB' : B' ≤ w.heap.size) :
    Calls Tryz.prog 253 #[VF k A n cap, VF k' A' n' cap'] w fun e w' => e = .returned (.bool (decide (bs = bs') && (k == k'))) ∧ Below w.heap.size w w' := by
  have Hr := Lib.hid hr; have Hr' := Lib.hid hr'; have Hn := Lib.hid hn; have Hn' := Lib.hid hn'; have Hnil := Lib.hid hnil; have Hnil' := Lib.hid hnil'
  clear hr hr' hn hn' hnil hnil'
  go_enter Tryz.func253, Tryz.ntmps253
  go_wp2_with fail
  have hal : Below w.heap.size w ((w.alloc (Obj.cells #[Value.int IntKind.i64 k, Value.slice A n cap] 74)).alloc (Obj.cells #[Value.int IntKind.i64 k', Value.slice A' n' cap'] 74)) :=
    ((Below.refl _ _).alloc (Nat.le_refl _) _).alloc (by simp) _
  have hb0 := heap2_a w (Obj.cells #[Value.int IntKind.i64 k, Value.slice A n cap] 74) (Obj.cells #[Value.int IntKind.i64 k', Value.slice A' n' cap'] 74)
  have hb1 := heap2_b w (Obj.cells #[Value.int IntKind.i64 k, Value.slice A n cap] 74) (Obj.cells #[Value.int IntKind.i64 k', Value.slice A' n' cap'] 74)
  generalize (w.alloc (Obj.cells #[Value.int IntKind.i64 k, Value.slice A n cap] 74)).alloc (Obj.cells #[Value.int IntKind.i64 k', Value.slice A' n' cap'] 74) = W at *
  have c0 : W.cell? ⟨w.heap.size, 0, none⟩ = some (.int .i64 k) := by rw [cell_heap hb0]; rfl
  have c1 : W.cell? ⟨w.heap.size + 1, 0, none⟩ = some (.int .i64 k') := by rw [cell_heap hb1]; rfl
  have Hal := Lib.hid hal
  clear hal hb0 hb1
  refine (same_calls A A' n cap n' cap' B B' bs bs' W Hn.out Hn'.out Hnil.out Hnil'.out (Hr.out.below Hal.out hB) (Hr'.out.below Hal.out hB')).mono ?_
  rintro e w' ⟨rfl, rfl⟩
  cases hd : decide (bs = bs') with
  | false =>
    have Hd := Lib.hid hd; clear hd
    go_wp2_with fail
    go_ret
    exact ⟨by rw [Hd.out]; rfl, Hal.out⟩
  | true =>
    have Hd := Lib.hid hd; clear hd
    go_wp2_with fail
    go_ret
    exact ⟨by rw [Hd.out]; simp, Hal.out⟩
def abc : List (BitVec 8) := [97#8, 98#8, 99#8]
def fa : List (BitVec 8) := Fr.encode 2#8 abc
def fb : List (BitVec 8) := Fr.encode 1#8 []
theorem encL_a : encL 2 abc = fa := rfl
theorem encE_a : encE 2 abc = 0 := rfl
theorem encL_b : encL 1 [] = fb := rfl
theorem encE_b : encE 1 [] = 0 := rfl
theorem fa_len : fa.length = 15 := by unfold fa; rw [Fr.encode_length]; rfl
theorem fb_len : fb.length = 12 := by unfold fb; rw [Fr.encode_length]; rfl
theorem fa_4 : fa.take 4 = [112#8, 2#8, 0#8, 3#8] := rfl
theorem fa_8 : (fa.drop 8).take 3 = abc := by decide +kernel
theorem fb_8 : fb.drop 8 = [0#8, 0#8, 0#8, 0#8] := by decide +kernel
theorem fab : fa ++ fb = Fr.joinF [(2#8, abc), (1#8, [])] := by simp [Fr.joinF, fa, fb]
theorem fab_len : (fa ++ fb).length = 27 := by rw [List.length_append, fa_len, fb_len]
theorem fab_rows : Fr.rows (fa ++ fb).length (fa ++ fb) = [(2#8, abc), (1#8, [])] ∧ Fr.rowsAt (fa ++ fb).length (fa ++ fb) = 27 := by
  have h := Fr.rows_join [(2#8, abc), (1#8, [])] [] (fa ++ fb).length (by
    intro x hx; simp at hx; rcases hx with rfl | rfl <;> exact ⟨by decide, by decide⟩) (by rw [fab_len]; simp)
  rw [List.append_nil, ← fab, Fr.rows_nil, Fr.rowsAt_nil, fab_len] at h
  rw [fab_len]; exact h
theorem own_some {w : World} {base s : Nat} {t : TypeId} {A : Option Addr} {n cap : Nat} {xs : List Value} (h : w.ownsRow base t s (.slice A n cap) n xs) (h0 : 0 < n) : ∃ g, A = some ⟨g, 0, none⟩ ∧ n ≤ cap := by
  rcases h.2 with ⟨_, rfl⟩ | ⟨g, cap', cur, e, _, _, hc, _⟩
  · omega
  · injection e with e1 _ e2; subst e1; subst e2; exact ⟨g, rfl, hc⟩
theorem rd_at0 {w : World} {B g : Nat} {bs : List (BitVec 8)} (h : Rd w B (some ⟨g, 0, none⟩) (bs.map V8)) (o n : Nat) : Rd w B (some ⟨g, o, none⟩) (((bs.drop o).take n).map V8) := by
  have := rd_sub8 h o n
  rwa [Nat.zero_add] at this
set_option maxHeartbeats 2000000 in
theorem first_calls (w : World) (ht : TabIn w) : Calls Tryz.prog 25 #[] w fun e w' => e = .returned (.bool true) ∧ Below w.heap.size w w' := by
  have kc := conv_mark
  obtain ⟨i0, hi, hz0, hz1, hz2⟩ := info_parts infoU8
  have Hi := Lib.hid hi; clear hi
  have Ht := Lib.hid ht; clear ht
  go_enter Tryz.func25, Tryz.ntmps25
  go_wp2_with fail
  refine (encode_any 2 _ 3 3 _ abc _ rfl (rd_mark _ _ _ _ _ _ rfl rfl) (by simp) (Ht.out.below ((Below.refl _ _).alloc (Nat.le_refl _) _))).mono ?_
  rintro e w1 ⟨hb1, A1, cap1, rfl, hown1⟩
  rw [encL_a, encE_a, fa_len] at *
  have hbl1 : Below w.heap.size w w1 := ((Below.refl _ _).alloc (Nat.le_refl _) _).trans (hb1.mono (by simp))
  have hs1 := hbl1.size
  have Hb1 := Lib.hid hbl1
  have Hown1 := Lib.hid (own_base hown1 (show w.heap.size ≤ _ by simp))
  clear hb1 hown1 hbl1
  go_wp2_with fail
  refine (encode_any 1 none 0 0 w1.heap.size [] w1 rfl (Rd.nil _ _ _) (Nat.le_refl _) (tabIn_of Ht.out Hb1.out)).mono ?_
  rintro e w2 ⟨hb2, A2, cap2, rfl, hown2⟩
  rw [encL_b, encE_b, fb_len] at *
  have hs2 := hb2.size
  have Hb2 := Lib.hid (Hb1.out.trans (hb2.mono hs1))
  have Hown12 := Lib.hid (own_below Hown1.out hb2 (Nat.le_refl _))
  have Hown2 := Lib.hid (own_base hown2 hs1)
  clear hb2 hown2 Hown1
  go_wp2_with (go_at_call 30; refine (num_calls 0 _ (by omega) (by omega)).mono ?_; rintro e w' ⟨rfl, rfl⟩)
  refine (bytes_calls A1 15 cap1 w2.heap.size fa w2 fa_len.symm (by omega) (own_nil Hown12.out) (Nat.le_refl _) (own_rd Hown12.out)).mono ?_
  rintro e w3 ⟨A3, cap3, rfl, hown3, hb3⟩
  have hs3 := hb3.size
  have Hb3 := Lib.hid (Hb2.out.trans (hb3.mono (by omega)))
  have Hown23 := Lib.hid (own_below Hown2.out hb3 (Nat.le_refl _))
  have Hown3 := Lib.hid hown3; have Hbb3 := Lib.hid hb3
  clear hb3 hown3
  go_wp2_with (at_builtin; refine wpList_append_rd rfl _ _ 22 rfl w2.heap.size 5 i0 _ 1 descU8s Hi.out hz0 hz1 hz2 rfl _ 15 (fa.map V8) rfl Hown3.out _ A2 12 cap2 (fb.map V8) rfl (by rw [List.length_map, fb_len]) (own_nil Hown23.out) (own_rd Hown23.out) (v8_one _) (by unfold maxLen; omega) (by omega) hs3 ?_)
  intro v4 w4 hown4 hg4
  rw [← List.map_append] at hown4
  obtain ⟨A4, cap4, rfl, hc4, hm4, _⟩ := own_form hown4
  have hs4 := hg4.size
  have hb4 := Hbb3.out.trans (grown_below Hown3.out hg4 hs3)
  have Hb4 := Lib.hid (Hb2.out.trans (hb4.mono (by omega)))
  have Hown14 := Lib.hid (own_below Hown12.out hb4 (Nat.le_refl _))
  have Hown24 := Lib.hid (own_below Hown2.out hb4 (Nat.le_refl _))
  have Hown4 := Lib.hid hown4
  clear hb4 hown4 hg4 Hown3 Hbb3 Hown23 Hown12 Hown2
  go_wp2_with fail
  refine (row_calls A4 27 cap4 w4.heap.size (fa ++ fb) w4 fab_len.symm (by omega) (own_rd Hown4.out) (Nat.le_refl _) hc4 hm4 (tabIn_of Ht.out Hb4.out)).mono ?_
  rintro e w5 ⟨hb5, A5, cap5, cells, rfl, hown5, hsl5⟩
  rw [fab_rows.1, fab_rows.2, fab_len] at *
  have hs5 := hb5.size
  have Hb5 := Lib.hid (Hb4.out.trans (hb5.mono (by omega)))
  obtain ⟨g1, rfl, hcap1⟩ := own_some Hown14.out (by omega)
  obtain ⟨g2, rfl, hcap2⟩ := own_some Hown24.out (by omega)
  have Hr1 := Lib.hid (own_rd (own_below Hown14.out hb5 (Nat.le_refl _)))
  have Hr2 := Lib.hid (own_rd (own_below Hown24.out hb5 (Nat.le_refl _)))
  clear hb5 Hown14 Hown24 Hown4 hown5 hsl5
  have i1 : (4 : Int) ≤ (cap1 : Int) := by omega
  have i2 : (11 : Int) ≤ (cap1 : Int) := by omega
  have i3 : (8 : Int) ≤ (cap2 : Int) := by omega
  have i4 : (cap1 = 8) = False := by rw [eq_iff_iff]; constructor <;> intro hx <;> first | omega | cases hx
  have i5 : (cap2 = 8) = False := by rw [eq_iff_iff]; constructor <;> intro hx <;> first | omega | cases hx
  have i6 : (8 = cap2) = False := by rw [eq_iff_iff]; constructor <;> intro hx <;> first | omega | cases hx
  go_wp2_with fail
  have hal5 : Below w5.heap.size w5 _ := (Below.refl w5.heap.size w5).alloc (Nat.le_refl _) (.cells #[.int .u8 112, .int .u8 2, .int .u8 0, .int .u8 3] 5)
  refine (same_calls _ _ 4 cap1 4 4 w5.heap.size (w5.heap.size + 1) (fa.take 4) [112#8, 2#8, 0#8, 3#8] _ rfl rfl (by intro h; cases h) (by intro h; cases h) ((rd_take8 Hr1.out 4).below hal5 (Nat.le_refl _)) (rd_mark _ _ _ _ _ _ rfl rfl)).mono ?_
  rintro e w' ⟨rfl, rfl⟩
  rw [decide_eq_true fa_4]
  go_wp2_with fail
  have hal6 : Below w5.heap.size w5 ((w5.alloc (.cells #[.int .u8 112, .int .u8 2, .int .u8 0, .int .u8 3] 5)).alloc (.cells #[.int .u8 97, .int .u8 98, .int .u8 99] 5 (3, 4))) := ((Below.refl w5.heap.size w5).alloc (Nat.le_refl _) _).alloc (by simp) _
  refine (same_calls _ _ 3 (cap1 - 8) 3 3 w5.heap.size (w5.heap.size + 1 + 1) ((fa.drop 8).take 3) abc _ rfl rfl (by intro h; cases h) (by intro h; cases h) ((rd_at0 Hr1.out 8 3).below hal6 (Nat.le_refl _)) (rd_mark _ _ _ _ _ _ (by simp) rfl)).mono ?_
  rintro e w' ⟨rfl, rfl⟩
  rw [decide_eq_true fa_8]
  go_wp2_with fail
  have hal7 : Below w5.heap.size w5 (((w5.alloc (.cells #[.int .u8 112, .int .u8 2, .int .u8 0, .int .u8 3] 5)).alloc (.cells #[.int .u8 97, .int .u8 98, .int .u8 99] 5 (3, 4))).alloc (.cells #[.int .u8 0, .int .u8 0, .int .u8 0, .int .u8 0] 5)) := (((Below.refl w5.heap.size w5).alloc (Nat.le_refl _) _).alloc (by simp) _).alloc (by simp; omega) _
  refine (same_calls _ _ 4 (cap2 - 8) 4 4 w5.heap.size (w5.heap.size + 1 + 1 + 1) (fb.drop 8) [0#8, 0#8, 0#8, 0#8] _ rfl rfl (by intro h; cases h) (by intro h; cases h) (by
      have := (rd_at0 Hr2.out 8 4).below hal7 (Nat.le_refl _)
      rwa [List.take_of_length_le (by rw [List.length_drop, fb_len]; omega)] at this) (rd_mark _ _ _ _ _ _ (by simp) rfl)).mono ?_
  rintro e w' ⟨rfl, rfl⟩
  rw [decide_eq_true fb_8]
  go_wp2_with (go_at_call 30; refine (num_calls 0 _ (by omega) (by omega)).mono ?_; rintro e w' ⟨rfl, rfl⟩)
  go_ret
  exact ⟨rfl, Hb5.out.trans (hal7.mono (by omega))⟩
attribute [local go_sem ↓] loadF storeF
attribute [local go_sem] isLoadOf loadArg isRowAt_ptr rowAt_ptr blkOf_ptr aggOf_agg isAggV_agg isRow_alloc_new pair_cells
/-- A slice of bytes that came in. -/
def In8 (W : World) (A : Option Addr) (n cap : Nat) (bs : List (BitVec 8)) : Prop :=
  n = bs.length ∧ n ≤ cap ∧ cap ≤ maxLen ∧ (A = none → n = 0 ∧ cap = 0) ∧ Rd W W.heap.size A (bs.map V8)
attribute [local go_sem ↓] loadF storeF
attribute [local go_sem] isLoadOf loadArg isRowAt_ptr rowAt_ptr blkOf_ptr aggOf_agg isAggV_agg isRow_alloc_new pair_cells
def decK (bs : List (BitVec 8)) : Int := if Fr.good bs = true then (n8 (Fr.kOf bs) : Int) else 0
def decP (bs : List (BitVec 8)) : List (BitVec 8) := if Fr.good bs = true then Fr.pOf bs else []
def decN (bs : List (BitVec 8)) : Int := if Fr.good bs = true then ((Fr.nOf bs + 12 : Nat) : Int) else 0
def decE (bs : List (BitVec 8)) : Int := if Fr.good bs = true then 0 else 32
theorem dec_uni {bs : List (BitVec 8)} {w w' : World} {e : Ending} (h : DecAns bs w e w') : Below w.heap.size w w' ∧ ∃ A' cap', e = .returned (.tuple #[VF (decK bs) A' (decP bs).length cap', .int .i64 (decN bs), .int .i64 (decE bs)]) ∧
    w'.ownsRow w.heap.size 5 1 (.slice A' (decP bs).length cap') (decP bs).length ((decP bs).map V8) := by
  obtain ⟨hb, h⟩ := h
  refine ⟨hb, ?_⟩
  rcases h with ⟨hg, rfl⟩ | ⟨hg, A', cap', rfl, ho⟩
  · refine ⟨none, 0, ?_, ?_⟩ <;> (unfold decP; rw [if_neg (by rw [hg]; simp)])
    · unfold decK decN decE; rw [if_neg (by rw [hg]; simp), if_neg (by rw [hg]; simp), if_neg (by rw [hg]; simp)]; rfl
    · exact own_none _ _ _
  · have hl : (Fr.pOf bs).length = Fr.nOf bs := Fr.pOf_length (by have := Fr.good_len hg; omega)
    refine ⟨A', cap', ?_, ?_⟩ <;> (unfold decP; rw [if_pos hg, hl])
    · unfold decK decN decE; rw [if_pos hg, if_pos hg, if_pos hg]
    · exact ho
attribute [local go_sem ↓] loadF storeF
attribute [local go_sem] isLoadOf loadArg isRowAt_ptr rowAt_ptr blkOf_ptr aggOf_agg isAggV_agg isRow_alloc_new pair_cells
attribute [local go_sem ↓] loadF storeF
attribute [local go_sem] isLoadOf loadArg isRowAt_ptr rowAt_ptr blkOf_ptr aggOf_agg isAggV_agg isRow_alloc_new pair_cells
attribute [local go_sem ↓] loadF storeF
attribute [local go_sem] isLoadOf loadArg isRowAt_ptr rowAt_ptr blkOf_ptr aggOf_agg isAggV_agg isRow_alloc_new pair_cells
attribute [local go_sem ↓] loadF storeF
attribute [local go_sem] isLoadOf loadArg isRowAt_ptr rowAt_ptr blkOf_ptr aggOf_agg isAggV_agg isRow_alloc_new pair_cells
abbrev FrA := List (Int × List (BitVec 8))
/-- A slice of frames as it reads. -/
def FrRd (w : World) (B : Nat) (A : Option Addr) (fs : FrA) : Prop :=
  ∀ (i : Nat) (k : Int) (p : List (BitVec 8)), fs[i]? = some (k, p) → ∃ blk off A' cap', A = some ⟨blk, off, none⟩ ∧ blk < B ∧ w.cell? ⟨blk, off + i * 2, none⟩ = some (.int .i64 k) ∧ w.cell? ⟨blk, off + i * 2 + 1, none⟩ = some (.slice A' p.length cap') ∧
    (A' = none → p.length = 0 ∧ cap' = 0) ∧ p.length ≤ cap' ∧ cap' ≤ maxLen ∧ Rd w B A' (p.map V8)
theorem FrRd.below {w w' : World} {B C : Nat} {A : Option Addr} {fs : FrA} (h : FrRd w B A fs) (hb : Below C w w') (hB : B ≤ C) : FrRd w' B A fs := by
  intro i k p hi
  obtain ⟨blk, off, A', cap', e, h1, h2, h3, h4, h5, h6, h7⟩ := h i k p hi
  refine ⟨blk, off, A', cap', e, h1, ?_, ?_, h4, h5, h6, h7.below hb hB⟩
  · exact (hb.cell (p := ⟨blk, off + i * 2, none⟩) (Nat.lt_of_lt_of_le h1 hB)).trans h2
  · exact (hb.cell (p := ⟨blk, off + i * 2 + 1, none⟩) (Nat.lt_of_lt_of_le h1 hB)).trans h3
theorem FrRd.mono {w : World} {B C : Nat} {A : Option Addr} {fs : FrA} (h : FrRd w B A fs) (hB : B ≤ C) : FrRd w C A fs := by
  intro i k p hi
  obtain ⟨blk, off, A', cap', e, h1, h2, h3, h4, h5, h6, h7⟩ := h i k p hi
  refine ⟨blk, off, A', cap', e, Nat.lt_of_lt_of_le h1 hB, h2, h3, h4, h5, h6, ?_⟩
  intro j v hj
  obtain ⟨b, o, e', q, c⟩ := h7 j v hj
  exact ⟨b, o, e', Nat.lt_of_lt_of_le q hB, c⟩
/-- Few frames, each short. -/
def Few (fs : FrA) : Prop := fs.length ≤ 60 ∧ ∀ x ∈ fs, x.2.length ≤ 65536
def SmallAns (fs : FrA) (w : World) (e : Ending) (w' : World) : Prop := ∃ b, e = .returned (.bool b) ∧ w = w' ∧ (b = true → Few fs)
set_option maxHeartbeats 1000000 in
theorem small_calls (A : Option Addr) (n cap B : Nat) (fs : FrA) (w : World) (hn : n = fs.length) (hm : n ≤ cap) (hcm : cap ≤ maxLen) (hr : FrRd w B A fs) :
    Calls Tryz.prog 26 #[.slice A n cap] w (SmallAns fs w) := by
  have Hn := Lib.hid hn; have Hr := Lib.hid hr
  unfold maxLen at hcm
  clear hn hr
  go_enter Tryz.func26, Tryz.ntmps26
  go_wp2_with fail
  go_loopw [3, 4] (fun m' i' wr => ∃ a m : Nat, i' = .int .i64 (a : Int) ∧ m' = .int .i64 (m : Int) ∧ a ≤ n ∧ a ≤ 61 ∧ m < 9223372036854775808 ∧ (∀ j x, fs[j]? = some x → j < a → x.2.length ≤ m) ∧ w = wr) (fun _ i _ => n - (intOf i).toNat)
  case atStart => exact ⟨0, 0, rfl, rfl, by omega, by omega, by omega, fun j x _ h => absurd h (by omega), rfl⟩
  case round =>
    obtain ⟨a, m, rfl, rfl, ha, ha2, hm2, hall, rfl⟩ := hrel
    have Hall := Lib.hid hall; clear hall
    by_cases hlt : a < n
    · have q1 : (a : Int) < (n : Int) := by omega
      by_cases h60 : a ≤ 60
      · have q2 : (a : Int) ≤ 60 := by omega
        obtain ⟨⟨k, p⟩, hp⟩ : ∃ x, fs[a]? = some x := ⟨fs[a]'(by rw [← Hn.out]; omega), List.getElem?_eq_getElem _⟩
        obtain ⟨blk, off, A', cap', rfl, h1, h2, h3, h4, h5, h6, h7⟩ := Hr.out a k p hp
        have Hp := Lib.hid hp
        unfold maxLen at h6
        clear hp h2 h4 h7
        obtain ⟨L, hL⟩ : ∃ L, L = p.length := ⟨_, rfl⟩
        rw [← hL] at h3 h5
        have HL := Lib.hid hL
        clear hL
        go_wp2_with fail
        refine ⟨⟨a + 1, max m L, by congr 1, ?_, by omega, by omega, by omega, ?_, trivial⟩, by simp [intOf]; omega⟩
        · congr 1; split <;> omega
        · intro j x hj hl
          by_cases hja : j < a
          · exact Nat.le_trans (Hall.out j x hj hja) (Nat.le_max_left _ _)
          · obtain rfl : j = a := by omega
            rw [Hp.out] at hj; injection hj with hj; subst hj
            rw [HL.out]; exact Nat.le_max_right _ _
      · have q2 : ¬ (a : Int) ≤ 60 := by omega
        have q3 : ¬ (n : Int) ≤ 60 := by omega
        go_wp2_with fail
        go_ret
        exact ⟨false, rfl, rfl, fun h => by cases h⟩
    · by_cases h60 : n ≤ 60
      · have q2 : (n : Int) ≤ 60 := by omega
        go_wp2_with fail
        go_ret
        refine ⟨_, rfl, rfl, fun h => ⟨by rw [← Hn.out]; exact h60, fun x hx => ?_⟩⟩
        obtain ⟨j, hj, hx⟩ := List.getElem_of_mem hx
        rw [← Hn.out] at hj
        have h1 := Hall.out j x (by rw [← hx]; exact List.getElem?_eq_getElem _) (by omega)
        have h2 := of_decide_eq_true h
        omega
      · have q2 : ¬ (n : Int) ≤ 60 := by omega
        go_wp2_with fail
        go_ret
        exact ⟨false, rfl, rfl, fun h => by cases h⟩
attribute [local go_sem ↓] loadF storeF
attribute [local go_sem] isLoadOf loadArg isRowAt_ptr rowAt_ptr blkOf_ptr aggOf_agg isAggV_agg isRow_alloc_new pair_cells
theorem c22_keep {W w' w'' : World} {B b1 o1 b2 o2 : Nat} {x1 y1 x2 y2 : Value} (h : ((w'.cell? ⟨b1, o1, none⟩ = some x1 ∧ w'.cell? ⟨b1, o1 + 1, none⟩ = some y1) ∧ w'.cell? ⟨b2, o2, none⟩ = some x2 ∧ w'.cell? ⟨b2, o2 + 1, none⟩ = some y2) ∧ (b1 < B ∧ b2 < B) ∧ Below B W w') (hb : Below B w' w'') :
    ((w''.cell? ⟨b1, o1, none⟩ = some x1 ∧ w''.cell? ⟨b1, o1 + 1, none⟩ = some y1) ∧ w''.cell? ⟨b2, o2, none⟩ = some x2 ∧ w''.cell? ⟨b2, o2 + 1, none⟩ = some y2) ∧ (b1 < B ∧ b2 < B) ∧ Below B W w'' :=
  ⟨⟨⟨(hb.cell (p := ⟨b1, o1, none⟩) h.2.1.1).trans h.1.1.1, (hb.cell (p := ⟨b1, o1 + 1, none⟩) h.2.1.1).trans h.1.1.2⟩, (hb.cell (p := ⟨b2, o2, none⟩) h.2.1.2).trans h.1.2.1, (hb.cell (p := ⟨b2, o2 + 1, none⟩) h.2.1.2).trans h.1.2.2⟩, h.2.1, h.2.2.trans hb⟩
set_option maxHeartbeats 2000000 in
theorem sames_calls (A A' : Option Addr) (n cap cap' B B' : Nat) (fs : FrA) (w : World) (hn : n = fs.length) (hm : n ≤ cap) (hm' : n ≤ cap') (hcm : cap ≤ maxLen) (hcm' : cap' ≤ maxLen) (hr : FrRd w B A fs) (hr' : FrRd w B' A' fs) (hB : B ≤ w.heap.size) (hB' : B' ≤ w.heap.size) :
    Calls Tryz.prog 201 #[.slice A n cap, .slice A' n cap'] w fun e w' => e = .returned (.bool true) ∧ Below w.heap.size w w' := by
  have Hn := Lib.hid hn; have Hr := Lib.hid hr; have Hr' := Lib.hid hr'
  unfold maxLen at hcm hcm'
  clear hn hr hr'
  go_enter Tryz.func201, Tryz.ntmps201
  go_wp2_with fail
  go_loopw [5] (fun i' wr => ∃ (a : Nat), i' = .int .i64 (a : Int) ∧ a ≤ n ∧ Below w.heap.size w wr) (fun i _ => n - (intOf i).toNat)
  case atStart => exact ⟨0, rfl, by omega, Below.refl _ _⟩
  case round =>
    obtain ⟨a, rfl, ha, hbl⟩ := hrel
    have Hbl := Lib.hid hbl
    have hsz := hbl.size
    clear hbl
    by_cases hlt : a < n
    · have q1 : (a : Int) < (n : Int) := by omega
      obtain ⟨⟨k, p⟩, hp⟩ : ∃ x, fs[a]? = some x := ⟨fs[a]'(by rw [← Hn.out]; omega), List.getElem?_eq_getElem _⟩
      have Hr2 := Lib.hid (Hr.out.below Hbl.out hB)
      have Hr2' := Lib.hid (Hr'.out.below Hbl.out hB')
      obtain ⟨blk, off, C1, cp1, rfl, h1, h2, h3, h4, h5, h6, h7⟩ := Hr2.out a k p hp
      obtain ⟨blk', off', C2, cp2, rfl, j1, j2, j3, j4, j5, j6, j7⟩ := Hr2'.out a k p hp
      have H4 := Lib.hid h4; have H7 := Lib.hid h7; have J4 := Lib.hid j4; have J7 := Lib.hid j7
      have b1 : blk < wr.heap.size := by omega
      have b2 : blk' < wr.heap.size := by omega
      have Hc := Lib.hid (show ((wr.cell? ⟨blk, off + a * 2, none⟩ = some (.int .i64 k) ∧ wr.cell? ⟨blk, off + a * 2 + 1, none⟩ = some (.slice C1 p.length cp1)) ∧ wr.cell? ⟨blk', off' + a * 2, none⟩ = some (.int .i64 k) ∧ wr.cell? ⟨blk', off' + a * 2 + 1, none⟩ = some (.slice C2 p.length cp2)) ∧ (blk < wr.heap.size ∧ blk' < wr.heap.size) ∧ Below wr.heap.size wr wr from ⟨⟨⟨h2, h3⟩, j2, j3⟩, ⟨b1, b2⟩, Below.refl _ _⟩)
      clear hp h4 h7 h6 j4 j7 j6 h2 h3 j2 j3
      obtain ⟨L, hL⟩ : ∃ L, L = p.length := ⟨_, rfl⟩
      rw [← hL] at h5 H4 j5 J4 Hc
      have HL := Lib.hid hL
      clear hL
      go_wp2_with fail
      have hst := Hc.out
      go_region_held3 (fun w' => ((w'.cell? ⟨blk, off + a * 2, none⟩ = some (.int .i64 k) ∧ w'.cell? ⟨blk, off + a * 2 + 1, none⟩ = some (.slice C1 L cp1)) ∧ w'.cell? ⟨blk', off' + a * 2, none⟩ = some (.int .i64 k) ∧ w'.cell? ⟨blk', off' + a * 2 + 1, none⟩ = some (.slice C2 L cp2)) ∧ (blk < wr.heap.size ∧ blk' < wr.heap.size) ∧ Below wr.heap.size wr w')
        ((rename (_ ∧ _) ∧ (_ ∧ _) ∧ Below _ _ _ => hS; first
          | exact hS
          | exact c22_keep hS (Below.refl _ _).drew
          | exact c22_keep hS (Below.mono (by assumption) hS.2.2.size)))
        ((go_at_call 253; rename (_ ∧ _) ∧ (_ ∧ _) ∧ Below _ _ _ => hS; refine (sameF_calls k k C1 C2 L cp1 L cp2 B B' p p _ HL.out HL.out (fun h => (H4.out h).1) (fun h => (J4.out h).1) (H7.out.below hS.2.2 (Nat.le_trans hB hsz)) (J7.out.below hS.2.2 (Nat.le_trans hB' hsz)) (Nat.le_trans (Nat.le_trans hB hsz) hS.2.2.size) (Nat.le_trans (Nat.le_trans hB' hsz) hS.2.2.size)).mono ?_; rintro e w' ⟨rfl, hb⟩))
      rename (_ ∧ _) ∧ (_ ∧ _) ∧ Below _ _ w' => hF
      have HF := Lib.hid (Hbl.out.trans (hF.2.2.mono hsz))
      clear hF hS hst hb
      go_wp2_with fail
      exact ⟨⟨a + 1, by congr 1, by omega, HF.out⟩, by simp [intOf]; omega⟩
    · go_wp2_with fail
      go_ret
      exact ⟨rfl, Hbl.out⟩
open Go.ChangeShapes Go.WideShapes Go.ChangeAt Go.RowKit
theorem own : ownKnob Tryz.prog.godebug = none := by kernel_rfl
theorem laidOut : laidOutB Tryz.prog = true := by kernel_rfl
theorem int8 {z : Int} (h : (Lit.int .u8 z).wf = true) : z = (n8 (BitVec.ofInt 8 z) : Int) := by
  have hb := bounds_u8 h
  unfold n8
  rw [BitVec.toNat_ofInt]
  omega
theorem open_u8s {H : Type} {enc : TypeId × Value → H} {W : World} {A : Option Addr} {n cap : Nat} {d : DataW H} {p : List MemPlace} {base : Nat} {sp : Nat → Bool} {held : Bool}
    (h0 : DataW.Trod enc Tryz.prog W base sp held 22 (.slice A n cap) d p) : ∃ bs, In8 W A n cap bs := by
  obtain ⟨fuel, hf⟩ := h0
  rcases open_ints descU8s descU8 (by kernel_rfl) hf with ⟨hcs, _⟩ | ⟨x, l, c, zs, hcs, _, hl, hm, hz, _, hcell, hwz⟩
  · simp [Value.cells] at hcs
    obtain ⟨rfl, rfl, rfl⟩ := hcs
    exact ⟨[], rfl, Nat.le_refl _, by unfold maxLen; omega, fun _ => ⟨rfl, rfl⟩, Rd.nil _ _ _⟩
  · simp [Value.cells] at hcs
    obtain ⟨rfl, rfl, rfl⟩ := hcs
    have hlen : n ≤ zs.length := by rw [hz]; split <;> omega
    refine ⟨(zs.take n).map (BitVec.ofInt 8), by simp; omega, hl, hm, (by intro h; cases h), ?_⟩
    intro k v hv
    have hk : k < n := by
      have := (List.getElem?_eq_some_iff.1 hv).1
      simp at this; omega
    have hc := hcell k (by omega)
    obtain ⟨b, off, spot⟩ := x
    have hspot : spot = none := by
      have h1 := hcell 0 (by omega)
      simpa [Addr.add] using World.cell?_spot h1
    subst hspot
    rw [Addr.add_lit] at hc
    refine ⟨b, off, rfl, ?_, ?_⟩
    · have := block_lt_of_cell hc; exact this
    · rw [hc, ← hv]
      have e : zs.getD k 0 = zs[k]'(by omega) := by simp [List.getD, List.getElem?_eq_getElem (show k < zs.length by omega)]
      have hw := hwz _ (List.getElem_mem (show k < zs.length by omega))
      rw [e, int8 hw]
      simp [List.getElem?_map, List.getElem?_take, hk, List.getElem?_eq_getElem (show k < zs.length by omega)]
attribute [local go_sem ↓] loadF storeF
attribute [local go_sem] isLoadOf loadArg isRowAt_ptr rowAt_ptr blkOf_ptr aggOf_agg isAggV_agg isRow_alloc_new pair_cells
/-- A slice of frames that came in. -/
def InF (W : World) (A : Option Addr) (n cap : Nat) (fs : FrA) : Prop := n = fs.length ∧ n ≤ cap ∧ cap ≤ maxLen ∧ (A = none → n = 0 ∧ cap = 0) ∧ FrRd W W.heap.size A fs
open Go.ChangeShapes Go.WideShapes Go.ChangeAt Go.RowKit
theorem open_frames {H : Type} {enc : TypeId × Value → H} {W : World} {A : Option Addr} {n cap : Nat} {d : DataW H} {p : List MemPlace} {base : Nat} {sp : Nat → Bool} {held : Bool}
    (h0 : DataW.Trod enc Tryz.prog W base sp held 71 (.slice A n cap) d p) : ∃ fs, InF W A n cap fs := by
  obtain ⟨fuel, hf⟩ := h0
  obtain ⟨f0, f1, hfs, o0, o1, c0, c1, e0, e1⟩ : ∃ f0 f1 : Field, Tryz.prog.underlying 74 = some (.struct #[f0, f1]) ∧ f0.offset = 0 ∧ f1.offset = 1 ∧ Tryz.prog.cellsOf f0.type = 1 ∧ Tryz.prog.cellsOf f1.type = 1 ∧ Tryz.prog.underlying f0.type = some (.int .i64) ∧ f1.type = 22 :=
    ⟨_, _, Tryz.underlying74, by kernel_rfl, by kernel_rfl, by kernel_rfl, by kernel_rfl, by kernel_rfl, by kernel_rfl⟩
  rcases Deep.open_slice_pairs descFrs hfs (by kernel_rfl) o0 o1 c0 c1 hf with ⟨hcs, _⟩ | ⟨x, l, c, m, fu, V0, V1, D0, D1, P0, P1, hcs, _, hl, hm, hmm, _, hcell⟩
  · simp [Value.cells] at hcs
    obtain ⟨rfl, rfl, rfl⟩ := hcs
    exact ⟨[], rfl, Nat.le_refl _, by unfold maxLen; omega, fun _ => ⟨rfl, rfl⟩, fun i k p h => by simp at h⟩
  · simp [Value.cells] at hcs
    obtain ⟨rfl, rfl, rfl⟩ := hcs
    have hnm : n ≤ m := by rw [hmm]; split <;> omega
    have each : ∀ i, i < n → ∃ q : Int × List (BitVec 8), V0 i = .int .i64 q.1 ∧ ∃ A' cap', V1 i = .slice A' q.2.length cap' ∧ In8 W A' q.2.length cap' q.2 := by
      intro i hi
      obtain ⟨_, _, t0, t1⟩ := hcell i (by omega)
      obtain ⟨k, hk, _, _⟩ := DataW.trod_int e0 t0
      rw [e1] at t1
      have hs : ∃ A n cap, V1 i = .slice A n cap := by
        rcases open_ints (t := 22) descU8s descU8 (by kernel_rfl) t1 with ⟨hcs, _⟩ | ⟨x, l, c, zs, hcs, _⟩
        · exact ⟨none, 0, 0, by simpa using hcs⟩
        · exact ⟨some x, l, c, by simpa using hcs⟩
      obtain ⟨A', n', cap', hv⟩ := hs
      rw [hv] at t1
      obtain ⟨bs, hb⟩ := open_u8s (A := A') (n := n') (cap := cap') (d := D1 i) (p := P1 i) (enc := enc) (W := W) (base := base) (sp := sp) (held := held) ⟨fu, t1⟩
      obtain rfl := hb.1
      exact ⟨(k, bs), by simpa using hk, A', cap', hv, hb⟩
    obtain ⟨q, hq⟩ := Deep.choose_lt each
    refine ⟨(List.range n).map q, by simp, hl, hm, (by intro h; cases h), ?_⟩
    intro i k p hi
    have hin : i < n := by have := (List.getElem?_eq_some_iff.1 hi).1; simpa using this
    have hqi : q i = (k, p) := by simpa [hin] using hi
    obtain ⟨g0, A', cap', g1, gb⟩ := hq i hin
    obtain ⟨q0, q1, _, _⟩ := hcell i (by omega)
    rw [hqi] at g0 g1 gb
    obtain ⟨b, off, spot⟩ := x
    have hspot : spot = none := by
      have h1 := (hcell 0 (by omega)).1
      simpa [Addr.add] using World.cell?_spot h1
    subst hspot
    rw [Addr.add_lit] at q0 q1
    refine ⟨b, off, A', cap', rfl, block_lt_of_cell q0, q0.trans (by rw [g0]), ?_, gb.2.2.2.1, gb.2.1, gb.2.2.1, gb.2.2.2.2⟩
    rw [← Nat.add_assoc] at q1
    exact q1.trans (by rw [g1])
end Go.Proofs.YtmeoafodcniliaaGreatDoor
