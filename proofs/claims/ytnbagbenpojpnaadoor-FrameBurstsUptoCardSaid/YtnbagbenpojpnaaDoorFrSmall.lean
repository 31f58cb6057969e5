/- num, pithref.Frame, pithref.SameFrame -/
import Derived.Test.YtnbagbenpojpnaaDoorFrRowA
import Derived.Test.YtnbagbenpojpnaaDoorFrRowB
namespace Go.Proofs.YtnbagbenpojpnaaDoor
open Go.RowKit
set_option linter.unusedSimpArgs false
set_option linter.unusedVariables false
attribute [local go_sem ↓] loadF storeF
attribute [local go_sem] isLoadOf loadArg isRowAt_ptr rowAt_ptr blkOf_ptr aggOf_agg isAggV_agg isRow_alloc_new pair_cells
theorem num_calls (x : Int) (w : World) (h0 : 0 ≤ x) (h1 : x ≤ 100) :
    Calls Tryd.prog 16 #[.int .i64 x] w fun e w' => e = .returned (.int .i64 x) ∧ w = w' := by
  have h : IntKind.i64.wrap x = x := IntWalk.i64_in _ (by omega)
  go_enter Tryd.func16, Tryd.ntmps16
  go_wp2
  go_ret
  exact ⟨rfl, rfl⟩
theorem results_cell1 {P : Program} {fn : Func} {p : Tmp} {ty : TypeId} (h : fn.results = #[.cell p ty]) (tmps : Array Value) (w : World) (g : Nat) (t : TypeId) (cs : Array Value) (fr : Nat × Nat)
    (hp : tmps.getD p undef = .pointer (some ⟨g, 0, none⟩)) (hg : w.heap[g]? = some (.cells cs t fr)) (hu : (P.underlying ty).map aggDesc = some true) (hi : (P.info? ty).map (·.size) = some cs.size) :
    (results fn tmps).run P w = .ok (.agg cs) w := by
  obtain ⟨d, h1, h2⟩ := agg_of hu
  exact results_cell_row h tmps w g t cs fr d hp hg h1 (by cases d <;> simp_all [aggDesc]) hi
theorem isRow_kept {W w' : World} {g : Nat} {cs : Array Value} {t n : Nat} (hb : Below W.drew.heap.size W.drew w') (h : W.heap[g]? = some (.cells cs t (0, 0))) (hs : cs.size = n) : IsRow w' g t n :=
  ⟨cs, (hb.block _ (lt_heap h)).trans h, hs⟩
theorem c2_keep {W w' w'' : World} {g B : Nat} {x y : Value} (h : (w'.cell? ⟨g, 0, none⟩ = some x ∧ w'.cell? ⟨g, 1, none⟩ = some y) ∧ g < B ∧ Below B W w') (hb : Below B w' w'') :
    (w''.cell? ⟨g, 0, none⟩ = some x ∧ w''.cell? ⟨g, 1, none⟩ = some y) ∧ g < B ∧ Below B W w'' :=
  ⟨⟨(hb.cell (p := ⟨g, 0, none⟩) h.2.1).trans h.1.1, (hb.cell (p := ⟨g, 1, none⟩) h.2.1).trans h.1.2⟩, h.2.1, h.2.2.trans hb⟩
set_option maxHeartbeats 1000000 in
theorem frame_calls (k : Int) (A : Option Addr) (n cap B : Nat) (bs : List (BitVec 8)) (w : World) (hn : n = bs.length) (hm : n ≤ 140737488351232) (hnil : A = none → n = 0 ∧ cap = 0) (hB : B ≤ w.heap.size) (hr : Rd w B A (bs.map V8)) :
    Calls Tryd.prog 13 #[VF k A n cap] w fun e w' => Below w.heap.size w w' ∧ ∃ A' cap', e = .returned (VF k A' n cap') ∧ w'.ownsRow w.heap.size 5 1 (.slice A' n cap') n (bs.map V8) := by
  have Hr := Lib.hid hr; have Hn := Lib.hid hn; have Hnil := Lib.hid hnil
  clear hr hn hnil
  go_enter Tryd.func13, Tryd.ntmps13
  go_wp2_with fail
  have hb0 := heap2_a w (Obj.cells #[Value.int IntKind.i64 k, Value.slice A n cap] 24) (Obj.cells #[.int .i64 0, .slice none 0 0] 24)
  have hb1 := heap2_b w (Obj.cells #[Value.int IntKind.i64 k, Value.slice A n cap] 24) (Obj.cells #[.int .i64 0, .slice none 0 0] 24)
  have hal : Below w.heap.size w ((w.alloc (Obj.cells #[Value.int IntKind.i64 k, Value.slice A n cap] 24)).alloc (Obj.cells #[.int .i64 0, .slice none 0 0] 24)) :=
    ((Below.refl _ _).alloc (Nat.le_refl _) _).alloc (by simp) _
  generalize (w.alloc (Obj.cells #[Value.int IntKind.i64 k, Value.slice A n cap] 24)).alloc (Obj.cells #[.int .i64 0, .slice none 0 0] 24) = W at *
  have s1 := lt_heap hb1
  have c0 : W.cell? ⟨w.heap.size, 0, none⟩ = some (.int .i64 k) := by rw [cell_heap hb0]; rfl
  have c1 : W.cell? ⟨w.heap.size, 1, none⟩ = some (.slice A n cap) := by rw [cell_heap hb0]; rfl
  have Hal := Lib.hid hal; have H1 := Lib.hid hb1
  have Hr1 := Lib.hid (Hr.out.below hal hB)
  clear hal hb0 hb1
  have hst : (W.cell? ⟨w.heap.size, 0, none⟩ = some (.int .i64 k) ∧ W.cell? ⟨w.heap.size, 1, none⟩ = some (.slice A n cap)) ∧ w.heap.size < w.heap.size + 1 ∧ Below (w.heap.size + 1) W W := ⟨⟨c0, c1⟩, by omega, Below.refl _ _⟩
  have hw1 : w.heap.size + 1 ≤ W.heap.size := by omega
  go_region_held3 (fun w' => (w'.cell? ⟨w.heap.size, 0, none⟩ = some (.int .i64 k) ∧ w'.cell? ⟨w.heap.size, 1, none⟩ = some (.slice A n cap)) ∧ w.heap.size < w.heap.size + 1 ∧ Below (w.heap.size + 1) W w')
    ((rename (_ ∧ _) ∧ _ ∧ Below _ _ _ => hS; first
      | exact hS
      | exact c2_keep hS (Below.refl _ _).drew
      | exact c2_keep hS (Below.mono (by assumption) hw1)
      | exact c2_keep hS (below_setRow (Below.refl _ _) (Nat.le_refl _) _)))
    ((go_at_call 18; refine (bytes_calls A n cap B bs _ Hn.out hm Hnil.out (by show B ≤ W.heap.size; omega) (Hr1.out.below (Below.refl _ _).drew (by omega))).mono ?_; rintro e w' ⟨A', cap', rfl, hown, hb⟩; have hrow : IsRow w' (w.heap.size + 1) 24 2 := isRow_kept hb H1.out rfl; have hpc : Cells1 #[.int .i64 k, .slice A' n cap'] 2 := pair_cells _ _ _ _))
  rename (_ ∧ _) ∧ _ ∧ Below _ _ (World.setRow _ _ _) => hF
  have HF := Lib.hid hF.2.2
  have hg := (hb.block _ s1).trans H1.out
  have Hg := Lib.hid hg; have Hown := Lib.hid hown
  clear hF hown hb hst hrow hg
  go_wp2_with fail
  refine bodyPost_ret (results_cell1 rfl _ _ (w.heap.size + 1) 24 _ (0, 0) rfl (setRow_heap _ _ _ _ _ _ Hg.out) aggFrame sizeFrame) rfl ?_
  refine ⟨Hal.out.trans (HF.out.mono (by omega)), A', cap', rfl, ?_⟩
  exact own_base (own_setRow Hown.out _ _ s1) (show w.heap.size ≤ W.heap.size by omega)
set_option maxHeartbeats 1000000 in
theorem sameF_calls (k k' : Int) (A A' : Option Addr) (n cap n' cap' B B' : Nat) (bs bs' : List (BitVec 8)) (w : World) (hn : n = bs.length) (hn' : n' = bs'.length) (hnil : A = none → n = 0) (hnil' : A' = none → n' = 0)
    (hr : Rd w B A (bs.map V8)) (hr' : Rd w B' A' (bs'.map V8)) (hB : B ≤ w.heap.size) (hB' : B' ≤ w.heap.size) :
    Calls Tryd.prog 20 #[VF k A n cap, VF k' A' n' cap'] w fun e w' => e = .returned (.bool (decide (bs = bs') && (k == k'))) ∧ Below w.heap.size w w' := by
  have Hr := Lib.hid hr; have Hr' := Lib.hid hr'; have Hn := Lib.hid hn; have Hn' := Lib.hid hn'; have Hnil := Lib.hid hnil; have Hnil' := Lib.hid hnil'
  clear hr hr' hn hn' hnil hnil'
  go_enter Tryd.func20, Tryd.ntmps20
  go_wp2_with fail
  have hal : Below w.heap.size w ((w.alloc (Obj.cells #[Value.int IntKind.i64 k, Value.slice A n cap] 24)).alloc (Obj.cells #[Value.int IntKind.i64 k', Value.slice A' n' cap'] 24)) :=
    ((Below.refl _ _).alloc (Nat.le_refl _) _).alloc (by simp) _
  have hb0 := heap2_a w (Obj.cells #[Value.int IntKind.i64 k, Value.slice A n cap] 24) (Obj.cells #[Value.int IntKind.i64 k', Value.slice A' n' cap'] 24)
  have hb1 := heap2_b w (Obj.cells #[Value.int IntKind.i64 k, Value.slice A n cap] 24) (Obj.cells #[Value.int IntKind.i64 k', Value.slice A' n' cap'] 24)
  generalize (w.alloc (Obj.cells #[Value.int IntKind.i64 k, Value.slice A n cap] 24)).alloc (Obj.cells #[Value.int IntKind.i64 k', Value.slice A' n' cap'] 24) = W at *
  have c0 : W.cell? ⟨w.heap.size, 0, none⟩ = some (.int .i64 k) := by rw [cell_heap hb0]; rfl
  have c1 : W.cell? ⟨w.heap.size + 1, 0, none⟩ = some (.int .i64 k') := by rw [cell_heap hb1]; rfl
  have Hal := Lib.hid hal
  clear hal hb0 hb1
  refine (same_calls A A' n cap n' cap' B B' bs bs' W Hn.out Hn'.out Hnil.out Hnil'.out (Hr.out.below Hal.out hB) (Hr'.out.below Hal.out hB')).mono ?_
  rintro e w' ⟨rfl, rfl⟩
  cases hd : decide (bs = bs') with
  | false =>
    have Hd := Lib.hid hd; clear hd
    go_wp2_with fail
    go_ret
    exact ⟨by rw [Hd.out]; rfl, Hal.out⟩
  | true =>
    have Hd := Lib.hid hd; clear hd
    go_wp2_with fail
    go_ret
    exact ⟨by rw [Hd.out]; simp, Hal.out⟩
end Go.Proofs.YtnbagbenpojpnaaDoor
