/- FrameEncodes: the walk -/
import Derived.Test.YtnbagbenpojpnaaDoorFrFirst
namespace Go.Proofs.YtnbagbenpojpnaaDoor
open Go.RowKit
set_option linter.unusedSimpArgs false
set_option linter.unusedVariables false
attribute [local go_sem ↓] loadF storeF
attribute [local go_sem] isLoadOf loadArg isRowAt_ptr rowAt_ptr blkOf_ptr aggOf_agg isAggV_agg isRow_alloc_new pair_cells
/-- A slice of bytes that came in. -/
def In8 (W : World) (A : Option Addr) (n cap : Nat) (bs : List (BitVec 8)) : Prop :=
  n = bs.length ∧ n ≤ cap ∧ cap ≤ maxLen ∧ (A = none → n = 0 ∧ cap = 0) ∧ Rd W W.heap.size A (bs.map V8)
theorem encE_small (k : Int) (bs : List (BitVec 8)) : 0 ≤ encE k bs ∧ encE k bs ≤ 100 := by unfold encE; split <;> (try split) <;> omega
set_option maxHeartbeats 2000000 in
theorem law_encodes (k : Int) (A : Option Addr) (n cap : Nat) (bs : List (BitVec 8)) (w : World) (ha : In8 w A n cap bs) (ht : TabIn w) :
    Calls Tryd.prog 3 #[VF k A n cap] w fun e w' => e = .returned (.bool true) ∧ Below w.heap.size w w' := by
  obtain ⟨hn, hc, hcm, hnil, hr⟩ := ha
  have Hn := Lib.hid hn; have Hnil := Lib.hid hnil; have Hr := Lib.hid hr; have Ht := Lib.hid ht
  unfold maxLen at hcm
  clear hn hnil hr ht
  go_enter Tryd.func3, Tryd.ntmps3
  go_wp2_with fail
  have hb0 := heap_alloc_new w (Obj.cells #[Value.int IntKind.i64 k, Value.slice A n cap] 24)
  have hal : Below w.heap.size w (w.alloc (Obj.cells #[Value.int IntKind.i64 k, Value.slice A n cap] 24)) := (Below.refl _ _).alloc (Nat.le_refl _) _
  generalize w.alloc (Obj.cells #[Value.int IntKind.i64 k, Value.slice A n cap] 24) = W at *
  have hsW := lt_heap hb0
  refine (first_calls W (tabIn_of Ht.out hal)).mono ?_
  rintro e w1 ⟨rfl, hb1⟩
  have hs1 := hb1.size
  have hbox := (hb1.block _ hsW).trans hb0
  have c1 : w1.cell? ⟨w.heap.size, 1, none⟩ = some (.slice A n cap) := by rw [cell_heap hbox]; rfl
  have Hb1 := Lib.hid (hal.trans (hb1.mono (by omega)))
  have hrow1 : IsRow w1 w.heap.size 24 2 := ⟨_, hbox, rfl⟩
  have hro1 : rowOf w1 w.heap.size = #[.int .i64 k, .slice A n cap] := rowOf_eq hbox
  have Hbox := Lib.hid hbox
  clear hb0 hal hb1 hbox
  by_cases hbig : n ≤ 65536
  · have hbi : ¬ (65536 : Int) < (n : Int) := by omega
    go_wp2_with fail
    refine (frame_calls k A n cap w.heap.size bs w1 Hn.out (by omega) Hnil.out Hb1.out.size (Hr.out.below Hb1.out (Nat.le_refl _))).mono ?_
    rintro e w2 ⟨hb2, A2, cap2, rfl, hown2⟩
    have Hb2 := Lib.hid (Hb1.out.trans (hb2.mono Hb1.out.size))
    have Hown2 := Lib.hid hown2; have Hbb2 := Lib.hid hb2
    have hs2 := hb2.size
    clear hown2 hb2 c1 hrow1 hro1
    go_wp2_with fail
    refine (encode_any k A2 n cap2 w2.heap.size bs w2 Hn.out (own_rd Hown2.out) (Nat.le_refl _) (tabIn_of Ht.out Hb2.out)).mono ?_
    rintro e w3 ⟨hb3, A3, cap3, rfl, hown3⟩
    have Hb3 := Lib.hid (Hb2.out.trans (hb3.mono Hb2.out.size))
    have hs3 := hb3.size
    have hbx3 := (hb3.block _ (by omega)).trans ((Hbb2.out.block _ (by omega)).trans Hbox.out)
    have hrow3 : IsRow w3 w.heap.size 24 2 := ⟨_, hbx3, rfl⟩
    have hro3 : rowOf w3 w.heap.size = #[.int .i64 k, .slice A n cap] := rowOf_eq hbx3
    have Hown3 := Lib.hid hown3
    clear hown3 hb3 hbx3 Hbb2 Hbox
    go_wp2_with fail
    refine (rencode_any k A n cap w.heap.size bs w3 Hn.out Hnil.out (Hr.out.below Hb3.out (Nat.le_refl _)) Hb3.out.size).mono ?_
    rintro e w4 ⟨hb4, A4, cap4, rfl, hown4⟩
    have Hb4 := Lib.hid (Hb3.out.trans (hb4.mono Hb3.out.size))
    have Hown34 := Lib.hid (own_below Hown3.out hb4 (Nat.le_refl _))
    have Hown4 := Lib.hid hown4
    clear hown4 hb4 hrow3 hro3
    go_wp2_with fail
    refine (same_calls A3 A4 _ cap3 _ cap4 _ _ (encL k bs) (encL k bs) w4 rfl rfl (fun h => (own_nil Hown34.out h).1) (fun h => (own_nil Hown4.out h).1) (own_rd Hown34.out) (own_rd Hown4.out)).mono ?_
    rintro e w' ⟨rfl, rfl⟩
    rw [decide_eq_true rfl]
    have he := encE_small k bs
    go_wp2_with (go_at_call 16; refine (num_calls _ _ he.1 he.2).mono ?_; rintro e w' ⟨rfl, rfl⟩)
    go_ret
    exact ⟨by simp, Hb4.out⟩
  · have hbi : (65536 : Int) < (n : Int) := by omega
    go_wp2_with fail
    go_ret
    exact ⟨rfl, Hb1.out⟩
end Go.Proofs.YtnbagbenpojpnaaDoor
