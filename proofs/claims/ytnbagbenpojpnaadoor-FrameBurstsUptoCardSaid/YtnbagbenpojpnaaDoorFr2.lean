/- frame.Encode -/
import Derived.Test.YtnbagbenpojpnaaDoorFr1
import Derived.Test.YtnbagbenpojpnaaDoorInv
import Derived.Deep.DeepCutAuto
namespace Go.Proofs.YtnbagbenpojpnaaDoor
open Go.RowKit
set_option linter.unusedSimpArgs false
set_option linter.unusedVariables false
attribute [local go_sem ↓] load4 load8 store4 store8
attribute [local go_sem] isLoadOf loadArg isRowAt_ptr rowAt_ptr blkOf_ptr aggOf_agg isAggV_agg isRow_alloc_new

/-- A frame as a value. -/
abbrev VF (k : Int) (A : Option Addr) (n cap : Nat) : Value := .agg #[.int .i64 k, .slice A n cap]

set_option maxHeartbeats 1000000 in
theorem encode_bad (k : Int) (A : Option Addr) (n cap : Nat) (w : World) (hk : isK k = false) :
    Calls Tryd.prog 12 #[VF k A n cap] w fun e w' => e = .returned (.tuple #[.slice none 0 0, .int .i64 30]) ∧ Below w.heap.size w w' := by
  go_enter Tryd.func12, Tryd.ntmps12
  go_wp2_with (go_at_call 28; refine (kind_calls k _).mono ?_; rintro e w' ⟨rfl, rfl⟩)
  go_ret2
  exact ⟨rfl, (Below.refl _ _).alloc (Nat.le_refl _) _⟩
set_option maxHeartbeats 1000000 in
theorem encode_long (k : Int) (A : Option Addr) (n cap : Nat) (w : World) (hk : isK k = true) (hn : 1024 < n) :
    Calls Tryd.prog 12 #[VF k A n cap] w fun e w' => e = .returned (.tuple #[.slice none 0 0, .int .i64 31]) ∧ Below w.heap.size w w' := by
  have hn' : (1024 : Int) < (n : Int) := by omega
  go_enter Tryd.func12, Tryd.ntmps12
  go_wp2_with (go_at_call 28; refine (kind_calls k _).mono ?_; rintro e w' ⟨rfl, rfl⟩)
  go_ret2
  exact ⟨rfl, (Below.refl _ _).alloc (Nat.le_refl _) _⟩

theorem tabIn_of {w w' : World} (h : TabIn w) (hb : Below w.heap.size w w') : TabIn w' := h.below hb
/-- What stands when a frame's three parts are made. -/
def EncR (w1 : World) (hd sm : List (BitVec 8)) (s6 s7 : Value) (w : World) : Prop :=
  ∃ g6 g7, s6 = .pointer (some ⟨g6, 0, none⟩) ∧ s7 = .pointer (some ⟨g7, 0, none⟩) ∧ w1.heap.size ≤ g6 ∧ w1.heap.size ≤ g7 ∧
    w.heap[g6]? = some (.cells (arr hd) 59 (0, 0)) ∧ w.heap[g7]? = some (.cells (arr sm) 61 (0, 0)) ∧ Below w1.heap.size w1 w
/-- The three parts of a frame being made, in any order: what each operation has left. -/
structure PhiE (w1 : World) (g : Nat) (k : Int) (A : Option Addr) (n cap : Nat) (hd sm : List (BitVec 8)) (L : Nat → Bool) (v6 v7 v21 v22 v23 v24 v25 v26 v27 : Value) (w' : World) : Prop where
  bel : Below w1.heap.size w1 w'
  h0 : L 0 = true → v21 = .pointer (some ⟨g, 0, none⟩)
  h1 : L 1 = true → v22 = .int .i64 k
  h2 : L 2 = true → v23 = .int .i64 (n : Int)
  h3 : L 3 = true → v24 = .agg (arr hd)
  h4 : L 4 = true → v25 = .pointer (some ⟨g, 1, none⟩)
  h5 : L 5 = true → v26 = .slice A n cap
  h6 : L 6 = true → v27 = .agg (arr sm)
  h7 : L 7 = true → ∃ g6 cs, v6 = .pointer (some ⟨g6, 0, none⟩) ∧ w1.heap.size ≤ g6 ∧ w'.heap[g6]? = some (.cells cs 59 (0, 0)) ∧ cs.size = 8 ∧ (L 9 = true → cs = arr hd)
  h8 : L 8 = true → ∃ g7 cs, v7 = .pointer (some ⟨g7, 0, none⟩) ∧ w1.heap.size ≤ g7 ∧ w'.heap[g7]? = some (.cells cs 61 (0, 0)) ∧ cs.size = 4 ∧ (L 10 = true → cs = arr sm)
  h97 : L 9 = true → L 7 = true
  h108 : L 10 = true → L 8 = true
theorem upd1_ne (L : Nat → Bool) {i j : Nat} (h : j ≠ i) : upd1 L i j = L j := if_neg h
theorem upd1_self (L : Nat → Bool) (i : Nat) : upd1 L i i = true := if_pos rfl
section
variable {w1 : World} {g : Nat} {k : Int} {A : Option Addr} {n cap : Nat} {hd sm : List (BitVec 8)} {L : Nat → Bool} {v6 v7 v21 v22 v23 v24 v25 v26 v27 : Value} {w' w2 : World}
/-- The world goes on, none of the blocks at hand touched. -/
theorem PhiE.go (h : PhiE w1 g k A n cap hd sm L v6 v7 v21 v22 v23 v24 v25 v26 v27 w') (hb : Below w'.heap.size w' w2) : PhiE w1 g k A n cap hd sm L v6 v7 v21 v22 v23 v24 v25 v26 v27 w2 :=
  { h with
    bel := h.bel.trans (hb.mono h.bel.size)
    h7 := fun hl => by obtain ⟨g6, cs, a, b, c, d⟩ := h.h7 hl; exact ⟨g6, cs, a, b, (hb.block _ (lt_heap c)).trans c, d⟩
    h8 := fun hl => by obtain ⟨g6, cs, a, b, c, d⟩ := h.h8 hl; exact ⟨g6, cs, a, b, (hb.block _ (lt_heap c)).trans c, d⟩ }
theorem PhiE.s0 (h : PhiE w1 g k A n cap hd sm L v6 v7 v21 v22 v23 v24 v25 v26 v27 w') : PhiE w1 g k A n cap hd sm (upd1 L 0) v6 v7 (.pointer (some ⟨g, 0, none⟩)) v22 v23 v24 v25 v26 v27 w' :=
  ⟨h.bel, fun _ => rfl, h.h1, h.h2, h.h3, h.h4, h.h5, h.h6, h.h7, h.h8, h.h97, h.h108⟩
theorem PhiE.s1 (h : PhiE w1 g k A n cap hd sm L v6 v7 v21 v22 v23 v24 v25 v26 v27 w') : PhiE w1 g k A n cap hd sm (upd1 L 1) v6 v7 v21 (.int .i64 k) v23 v24 v25 v26 v27 w' :=
  ⟨h.bel, h.h0, fun _ => rfl, h.h2, h.h3, h.h4, h.h5, h.h6, h.h7, h.h8, h.h97, h.h108⟩
theorem PhiE.s2 (h : PhiE w1 g k A n cap hd sm L v6 v7 v21 v22 v23 v24 v25 v26 v27 w') : PhiE w1 g k A n cap hd sm (upd1 L 2) v6 v7 v21 v22 (.int .i64 (n : Int)) v24 v25 v26 v27 w' :=
  ⟨h.bel, h.h0, h.h1, fun _ => rfl, h.h3, h.h4, h.h5, h.h6, h.h7, h.h8, h.h97, h.h108⟩
theorem PhiE.s3 (h : PhiE w1 g k A n cap hd sm L v6 v7 v21 v22 v23 v24 v25 v26 v27 w') (hb : Below w'.heap.size w' w2) : PhiE w1 g k A n cap hd sm (upd1 L 3) v6 v7 v21 v22 v23 (.agg (arr hd)) v25 v26 v27 w2 :=
  have h := h.go hb
  ⟨h.bel, h.h0, h.h1, h.h2, fun _ => rfl, h.h4, h.h5, h.h6, h.h7, h.h8, h.h97, h.h108⟩
theorem PhiE.s4 (h : PhiE w1 g k A n cap hd sm L v6 v7 v21 v22 v23 v24 v25 v26 v27 w') : PhiE w1 g k A n cap hd sm (upd1 L 4) v6 v7 v21 v22 v23 v24 (.pointer (some ⟨g, 1, none⟩)) v26 v27 w' :=
  ⟨h.bel, h.h0, h.h1, h.h2, h.h3, fun _ => rfl, h.h5, h.h6, h.h7, h.h8, h.h97, h.h108⟩
theorem PhiE.s5 (h : PhiE w1 g k A n cap hd sm L v6 v7 v21 v22 v23 v24 v25 v26 v27 w') : PhiE w1 g k A n cap hd sm (upd1 L 5) v6 v7 v21 v22 v23 v24 v25 (.slice A n cap) v27 w' :=
  ⟨h.bel, h.h0, h.h1, h.h2, h.h3, h.h4, fun _ => rfl, h.h6, h.h7, h.h8, h.h97, h.h108⟩
theorem PhiE.s6 (h : PhiE w1 g k A n cap hd sm L v6 v7 v21 v22 v23 v24 v25 v26 v27 w') (hb : Below w'.heap.size w' w2) : PhiE w1 g k A n cap hd sm (upd1 L 6) v6 v7 v21 v22 v23 v24 v25 v26 (.agg (arr sm)) w2 :=
  have h := h.go hb
  ⟨h.bel, h.h0, h.h1, h.h2, h.h3, h.h4, h.h5, fun _ => rfl, h.h7, h.h8, h.h97, h.h108⟩
theorem PhiE.s7 (h : PhiE w1 g k A n cap hd sm L v6 v7 v21 v22 v23 v24 v25 v26 v27 w') (h9 : L 9 = false) (cs : Array Value) (hs : cs.size = 8) : PhiE w1 g k A n cap hd sm (upd1 L 7) (.pointer (some ⟨w'.heap.size, 0, none⟩)) v7 v21 v22 v23 v24 v25 v26 v27 (w'.alloc (.cells cs 59)) :=
  have hg := h.go ((Below.refl _ _).alloc (Nat.le_refl _) (.cells cs 59))
  ⟨hg.bel, hg.h0, hg.h1, hg.h2, hg.h3, hg.h4, hg.h5, hg.h6, fun _ => ⟨_, cs, rfl, h.bel.size, heap_alloc_new _ _, hs, fun hc => by rw [upd1_ne _ (by decide), h9] at hc; cases hc⟩, hg.h8, fun _ => rfl, hg.h108⟩
theorem PhiE.s8 (h : PhiE w1 g k A n cap hd sm L v6 v7 v21 v22 v23 v24 v25 v26 v27 w') (h9 : L 10 = false) (cs : Array Value) (hs : cs.size = 4) : PhiE w1 g k A n cap hd sm (upd1 L 8) v6 (.pointer (some ⟨w'.heap.size, 0, none⟩)) v21 v22 v23 v24 v25 v26 v27 (w'.alloc (.cells cs 61)) :=
  have hg := h.go ((Below.refl _ _).alloc (Nat.le_refl _) (.cells cs 61))
  ⟨hg.bel, hg.h0, hg.h1, hg.h2, hg.h3, hg.h4, hg.h5, hg.h6, hg.h7, fun _ => ⟨_, cs, rfl, h.bel.size, heap_alloc_new _ _, hs, fun hc => by rw [upd1_ne _ (by decide), h9] at hc; cases hc⟩, hg.h97, fun _ => rfl⟩
theorem PhiE.s9 (h : PhiE w1 g k A n cap hd sm L v6 v7 v21 v22 v23 v24 v25 v26 v27 w') (h7 : L 7 = true) (hl : hd.length = 8) : ∃ g6, v6 = .pointer (some ⟨g6, 0, none⟩) ∧ IsRow w' g6 59 8 ∧ PhiE w1 g k A n cap hd sm (upd1 L 9) (.pointer (some ⟨g6, 0, none⟩)) v7 v21 v22 v23 v24 v25 v26 v27 (w'.setRow g6 (arr hd)) := by
  obtain ⟨g6, cs, e, hg, hh, hs, _⟩ := h.h7 h7
  refine ⟨g6, e, ⟨cs, hh, hs⟩, ⟨below_setRow h.bel hg _, h.h0, h.h1, h.h2, h.h3, h.h4, h.h5, h.h6, fun _ => ⟨g6, arr hd, rfl, hg, setRow_heap _ _ _ _ _ _ hh, by rw [arr_size]; exact hl, fun _ => rfl⟩, fun hl8 => ?_, fun _ => h7, h.h108⟩⟩
  obtain ⟨g7, cs7, e7, hg7, hh7, hs7, hc7⟩ := h.h8 hl8
  have hne : g7 ≠ g6 := by
    intro hc; subst hc; rw [hh] at hh7; injection hh7 with hh7; injection hh7 with hh7; subst hh7; omega
  exact ⟨g7, cs7, e7, hg7, by rw [setRow_other _ _ _ _ hne]; exact hh7, hs7, hc7⟩
theorem PhiE.s10 (h : PhiE w1 g k A n cap hd sm L v6 v7 v21 v22 v23 v24 v25 v26 v27 w') (h8 : L 8 = true) (hl : sm.length = 4) : ∃ g7, v7 = .pointer (some ⟨g7, 0, none⟩) ∧ IsRow w' g7 61 4 ∧ PhiE w1 g k A n cap hd sm (upd1 L 10) v6 (.pointer (some ⟨g7, 0, none⟩)) v21 v22 v23 v24 v25 v26 v27 (w'.setRow g7 (arr sm)) := by
  obtain ⟨g7, cs, e, hg, hh, hs, _⟩ := h.h8 h8
  refine ⟨g7, e, ⟨cs, hh, hs⟩, ⟨below_setRow h.bel hg _, h.h0, h.h1, h.h2, h.h3, h.h4, h.h5, h.h6, fun hl7 => ?_, fun _ => ⟨g7, arr sm, rfl, hg, setRow_heap _ _ _ _ _ _ hh, by rw [arr_size]; exact hl, fun _ => rfl⟩, h.h97, fun _ => h8⟩⟩
  obtain ⟨g6, cs6, e6, hg6, hh6, hs6, hc6⟩ := h.h7 hl7
  have hne : g6 ≠ g7 := by
    intro hc; subst hc; rw [hh] at hh6; injection hh6 with hh6; injection hh6 with hh6; subst hh6; omega
  exact ⟨g6, cs6, e6, hg6, by rw [setRow_other _ _ _ _ hne]; exact hh6, hs6, hc6⟩
end
theorem src_of_row {w : World} {g : Nat} {l : List (BitVec 8)} {t : TypeId} {fr : Nat × Nat} (h : w.heap[g]? = some (.cells (arr l) t fr)) {d : Option Addr} :
    0 < (l.map V8).length → d = d ∧ ∃ ad, (some ⟨g, 0, none⟩ : Option Addr) = some ad ∧ ∀ (j : Nat) (v : Value), (l.map V8)[j]? = some v → w.cell? (ad.add j) = some v :=
  fun _ => ⟨rfl, _, rfl, fun j v hv => by rw [Addr.add_lit, Nat.zero_add, cell_heap h]; simpa [arr] using hv⟩
theorem rd_src {w : World} {B : Nat} {A : Option Addr} {vs : List Value} (h : Rd w B A vs) {d : Option Addr} :
    0 < vs.length → d = d ∧ ∃ ad, A = some ad ∧ ∀ (j : Nat) (v : Value), vs[j]? = some v → w.cell? (ad.add j) = some v := fun h0 => by
  obtain ⟨b, off, e, _, _⟩ := h.at_ h0
  exact ⟨rfl, _, e, fun j v hv => rd_news h _ e j v hv⟩
theorem nat_min_l (a b c : Nat) (h1 : a = b) (h2 : b ≤ c) : a = Nat.min b c := by
  rw [h1]; exact (Nat.min_eq_left h2).symm
set_option maxHeartbeats 1000000 in
theorem encode_good (k : Int) (kb : BitVec 8) (A : Option Addr) (n cap B : Nat) (bs : List (BitVec 8)) (w : World) (hk : isK k = true) (hkb : k = (n8 kb : Int)) (hn : n = bs.length) (hm : n ≤ 1024) (hr : Rd w B A (bs.map V8)) (hB : B ≤ w.heap.size) (ht : TabIn w) :
    Calls Tryd.prog 12 #[VF k A n cap] w fun e w' => ∃ A' cap', e = .returned (.tuple #[.slice A' (n + 12) cap', .int .i64 0]) ∧
      w'.ownsRow w.heap.size 5 1 (.slice A' (n + 12) cap') (n + 12) ((Fr.encode kb bs).map V8) ∧ Below w.heap.size w w' := by
  have hmk : ∀ w : World, (Instr.makeSlice 22 (.int .i64 (8 + (n : Int) + 4)) (.int .i64 (8 + (n : Int) + 4))).run Tryd.prog w = .ok (.slice (some ⟨w.heap.size, 0, none⟩) (n + 12) (n + 12)) (w.alloc (.cells (zeros8 (n + 12)) 5)) := fun w => by
    rw [show (8 + (n : Int) + 4) = ((n + 12 : Nat) : Int) by omega]; exact make_u8 _ _ (Nat.le_refl _) (by omega) w
  have Ht := Lib.hid ht; have Hr := Lib.hid hr; have Hn := Lib.hid hn; have Hkb := Lib.hid hkb
  clear ht hr hn hkb
  go_enter Tryd.func12, Tryd.ntmps12
  go_wp2_with (go_at_call 28; refine (kind_calls k _).mono ?_; rintro e w' ⟨rfl, rfl⟩)
  have hb0 := heap2_a w (Obj.cells #[Value.int IntKind.i64 k, Value.slice A n cap] 24) (Obj.cells (zeros8 (n + 12)) 5)
  have hb1 := heap2_b w (Obj.cells #[Value.int IntKind.i64 k, Value.slice A n cap] 24) (Obj.cells (zeros8 (n + 12)) 5)
  have hal : Below w.heap.size w ((w.alloc (Obj.cells #[Value.int IntKind.i64 k, Value.slice A n cap] 24)).alloc (Obj.cells (zeros8 (n + 12)) 5)) :=
    ((Below.refl _ _).alloc (Nat.le_refl _) _).alloc (by simp) _
  generalize (w.alloc (Obj.cells #[Value.int IntKind.i64 k, Value.slice A n cap] 24)).alloc (Obj.cells (zeros8 (n + 12)) 5) = w1 at *
  have s1 := lt_heap hb1
  have Ht1 := Lib.hid (tabIn_of Ht.out hal)
  have Hr1 := Lib.hid ((Hr.out.below hal hB).more (show B ≤ w1.heap.size by omega))
  have hc0 : w1.cell? ⟨w.heap.size, 0, none⟩ = some (.int .i64 k) := by rw [cell_heap hb0]; rfl
  have hc1 : w1.cell? ⟨w.heap.size, 1, none⟩ = some (.slice A n cap) := by rw [cell_heap hb0]; rfl
  have hlt : w.heap.size < w1.heap.size := by omega
  have H1 := Lib.hid hb1; have Hal := Lib.hid hal
  clear hb0 hb1 hal Ht
  go_cut [6, 7] (fun s6 s7 w' => EncR w1 (Fr.head kb n) (Crc.be (Crc.sum bs)) s6 s7 w')
  case first =>
    refine region_inv (fun L a' w' => ∃ v6 v7 v21 v22 v23 v24 v25 v26 v27 : Value, a' = (⟨#[VF k A n cap, .pointer (some ⟨w.heap.size, 0, none⟩), .slice none 0 0, .int .i64 0, .int .i64 (n : Int), .slice (some ⟨w.heap.size + 1, 0, none⟩) (n + 12) (n + 12), v6, v7, .pointer (some ⟨w.heap.size, 0, none⟩), .int .i64 k, .bool true, .bool false, .pointer (some ⟨w.heap.size, 1, none⟩), .slice A n cap, .int .i64 (n : Int), .int .i64 (n : Int), .bool (decide ((1024 : Int) < (n : Int))), .int .i64 (n : Int), .int .i64 (8 + (n : Int)), .int .i64 (8 + (n : Int) + 4), .slice (some ⟨w.heap.size + 1, 0, none⟩) (n + 12) (n + 12), v21, v22, v23, v24, v25, v26, v27, undef, undef, undef, undef, undef, undef, undef, undef, undef, undef, undef, undef, undef, undef, undef], []⟩ : Act) ∧
      PhiE w1 w.heap.size k A n cap (Fr.head kb n) (Crc.be (Crc.sum bs)) L v6 v7 v21 v22 v23 v24 v25 v26 v27 w') (by kernel_rfl) (by kernel_rfl) ?start ?step ?done
    case start =>
      (repeat apply Exists.intro)
      refine ⟨rfl, (Below.refl _ _).drew, ?_, ?_, ?_, ?_, ?_, ?_, ?_, ?_, ?_, ?_, ?_⟩ <;> (intro h; cases h)
    case done =>
      intro L a' w' hUp hR
      obtain ⟨u6, u7, u21, u22, u23, u24, u25, u26, u27, rfl, hR⟩ := hR
      go_wp2_with fail
      go_meet
      obtain ⟨g6, cs, e6, hg6, hh6, _, hc6⟩ := hR.h7 (hUp 7 (by decide))
      obtain ⟨g7, cs7, e7, hg7, hh7, _, hc7⟩ := hR.h8 (hUp 8 (by decide))
      rw [hc6 (hUp 9 (by decide))] at hh6
      rw [hc7 (hUp 10 (by decide))] at hh7
      exact ⟨g6, g7, e6, e7, hg6, hg7, hh6, hh7, hR.bel⟩
    case step =>
      intro L a' w' i o ho hNot hall hR
      obtain ⟨u6, u7, u21, u22, u23, u24, u25, u26, u27, rfl, hR⟩ := hR
      match i, ho, hNot with
      | 0, ho, hNot =>
        have ho' := ho
        simp only [List.getElem?_toArray, List.getElem?_cons_succ, List.getElem?_cons_zero, Option.some.injEq] at ho'
        subst ho'
        clear hall ho
        refine wanted_step rfl (wp_named fun _ hK => ?_)
        go_simp
        refine hK.out _ _ ?_
        (repeat apply Exists.intro)
        refine ⟨rfl, ?_⟩
        exact hR.s0
      | 1, ho, hNot =>
        have ho' := ho
        simp only [List.getElem?_toArray, List.getElem?_cons_succ, List.getElem?_cons_zero, Option.some.injEq] at ho'
        subst ho'
        have hL0 : L 0 = true := hall ⟨0, .data⟩ (by simp) rfl
        clear hall ho
        refine wanted_step rfl (wp_named fun _ hK => ?_)
        have e := hR.h0 hL0; subst e
        have c := (hR.bel.cell (p := ⟨w.heap.size, 0, none⟩) hlt).trans hc0
        go_simp
        refine hK.out _ _ ?_
        (repeat apply Exists.intro)
        refine ⟨rfl, ?_⟩
        exact hR.s1
      | 2, ho, hNot =>
        have ho' := ho
        simp only [List.getElem?_toArray, List.getElem?_cons_succ, List.getElem?_cons_zero, Option.some.injEq] at ho'
        subst ho'
        clear hall ho
        refine wanted_step rfl (wp_named fun _ hK => ?_)
        go_simp
        refine hK.out _ _ ?_
        (repeat apply Exists.intro)
        refine ⟨rfl, ?_⟩
        exact hR.s2
      | 3, ho, hNot =>
        have ho' := ho
        simp only [List.getElem?_toArray, List.getElem?_cons_succ, List.getElem?_cons_zero, Option.some.injEq] at ho'
        subst ho'
        have hL1 : L 1 = true := hall ⟨1, .data⟩ (by simp) rfl
        have hL2 : L 2 = true := hall ⟨2, .data⟩ (by simp) rfl
        clear hall ho
        refine wanted_step rfl (wp_named fun _ hK => ?_)
        have e := hR.h1 hL1; subst e
        have e := hR.h2 hL2; subst e
        go_simp
        refine (head_calls kb k n _ Hkb.out (by omega) (tabIn_of Ht1.out hR.bel)).mono ?_
        rintro e w' ⟨rfl, hb⟩
        go_simp
        refine hK.out _ _ ?_
        (repeat apply Exists.intro)
        refine ⟨rfl, ?_⟩
        exact hR.s3 hb
      | 4, ho, hNot =>
        have ho' := ho
        simp only [List.getElem?_toArray, List.getElem?_cons_succ, List.getElem?_cons_zero, Option.some.injEq] at ho'
        subst ho'
        clear hall ho
        refine wanted_step rfl (wp_named fun _ hK => ?_)
        go_simp
        refine hK.out _ _ ?_
        (repeat apply Exists.intro)
        refine ⟨rfl, ?_⟩
        exact hR.s4
      | 5, ho, hNot =>
        have ho' := ho
        simp only [List.getElem?_toArray, List.getElem?_cons_succ, List.getElem?_cons_zero, Option.some.injEq] at ho'
        subst ho'
        have hL4 : L 4 = true := hall ⟨4, .data⟩ (by simp) rfl
        clear hall ho
        refine wanted_step rfl (wp_named fun _ hK => ?_)
        have e := hR.h4 hL4; subst e
        have c := (hR.bel.cell (p := ⟨w.heap.size, 1, none⟩) hlt).trans hc1
        go_simp
        refine hK.out _ _ ?_
        (repeat apply Exists.intro)
        refine ⟨rfl, ?_⟩
        exact hR.s5
      | 6, ho, hNot =>
        have ho' := ho
        simp only [List.getElem?_toArray, List.getElem?_cons_succ, List.getElem?_cons_zero, Option.some.injEq] at ho'
        subst ho'
        have hL5 : L 5 = true := hall ⟨5, .data⟩ (by simp) rfl
        clear hall ho
        refine wanted_step rfl (wp_named fun _ hK => ?_)
        have e := hR.h5 hL5; subst e
        go_simp
        refine (sum4_calls A n cap w1.heap.size bs _ (tabIn_of Ht1.out hR.bel) Hn.out (by unfold maxLen; omega) (Hr1.out.below hR.bel (Nat.le_refl _)) hR.bel.size).mono ?_
        rintro e w' ⟨rfl, hb⟩
        go_simp
        refine hK.out _ _ ?_
        (repeat apply Exists.intro)
        refine ⟨rfl, ?_⟩
        exact hR.s6 hb
      | 7, ho, hNot =>
        have ho' := ho
        simp only [List.getElem?_toArray, List.getElem?_cons_succ, List.getElem?_cons_zero, Option.some.injEq] at ho'
        subst ho'
        clear hall ho
        refine wanted_step rfl (wp_named fun _ hK => ?_)
        have h9 : L 9 = false := by
          cases h : L 9
          · rfl
          · have := hR.h97 h; rw [hNot] at this; cases this
        go_simp
        refine hK.out _ _ ?_
        (repeat apply Exists.intro)
        refine ⟨rfl, ?_⟩
        exact hR.s7 h9 _ rfl
      | 8, ho, hNot =>
        have ho' := ho
        simp only [List.getElem?_toArray, List.getElem?_cons_succ, List.getElem?_cons_zero, Option.some.injEq] at ho'
        subst ho'
        clear hall ho
        refine wanted_step rfl (wp_named fun _ hK => ?_)
        have h10 : L 10 = false := by
          cases h : L 10
          · rfl
          · have := hR.h108 h; rw [hNot] at this; cases this
        go_simp
        refine hK.out _ _ ?_
        (repeat apply Exists.intro)
        refine ⟨rfl, ?_⟩
        exact hR.s8 h10 _ rfl
      | 9, ho, hNot =>
        have ho' := ho
        simp only [List.getElem?_toArray, List.getElem?_cons_succ, List.getElem?_cons_zero, Option.some.injEq] at ho'
        subst ho'
        have hL7 : L 7 = true := hall ⟨7, .data⟩ (by simp) rfl
        have hL3 : L 3 = true := hall ⟨3, .data⟩ (by simp) rfl
        clear hall ho
        refine wanted_step rfl (wp_named fun _ hK => ?_)
        obtain ⟨g6, rfl, hrow, hR'⟩ := hR.s9 hL7 rfl
        have e := hR.h3 hL3; subst e
        have hc : Cells1 (arr (Fr.head kb n)) 8 := arr_cells _
        go_simp
        refine hK.out _ _ ?_
        (repeat apply Exists.intro)
        refine ⟨rfl, ?_⟩
        exact hR'
      | 10, ho, hNot =>
        have ho' := ho
        simp only [List.getElem?_toArray, List.getElem?_cons_succ, List.getElem?_cons_zero, Option.some.injEq] at ho'
        subst ho'
        have hL8 : L 8 = true := hall ⟨8, .data⟩ (by simp) rfl
        have hL6 : L 6 = true := hall ⟨6, .data⟩ (by simp) rfl
        clear hall ho
        refine wanted_step rfl (wp_named fun _ hK => ?_)
        obtain ⟨g7, rfl, hrow, hR'⟩ := hR.s10 hL8 rfl
        have e := hR.h6 hL6; subst e
        have hc : Cells1 (arr (Crc.be (Crc.sum bs))) 4 := arr_cells _
        go_simp
        refine hK.out _ _ ?_
        (repeat apply Exists.intro)
        refine ⟨rfl, ?_⟩
        exact hR'
      | i + 11, ho, _ => exact absurd ho (by simp)
  case rest =>
    obtain ⟨g6, g7, rfl, rfl, hg6, hg7, hh6, hh7, hbl⟩ := hcut
    have Hh6 := Lib.hid hh6; have Hh7 := Lib.hid hh7; have Hbl := Lib.hid hbl
    obtain ⟨Z, hZ⟩ : ∃ Z : List Value, Z = (zeros8 (n + 12)).toList := ⟨_, rfl⟩
    have hZl : Z.length = n + 12 := by rw [hZ, Array.length_toList, zeros8_size]
    have Hg5 := Lib.hid (show wc.heap[w.heap.size + 1]? = some (.cells Z.toArray 5 (0, 0)) by rw [hZ, Array.toArray_toList]; exact (hbl.block _ s1).trans H1.out)
    have hne6 : g6 ≠ w.heap.size + 1 := by omega
    have hne7 : g7 ≠ w.heap.size + 1 := by omega
    have Hw1 := Lib.hid (Hal.out.trans (hbl.mono (by omega)))
    clear hh6 hh7 hbl
    go_wp2_with (with_reducible (refine wpList_copy_at (o := ⟨some 30, _, _, _, _, _⟩) (cur := Z) (cs := (Fr.head kb n).map V8) (off := 0) (t := 5) rfl (.tmp 28) (.tmp 29) rfl descU8s sizeU8 (dp := some ⟨w.heap.size + 1, 0, none⟩) (sp := some ⟨g6, 0, none⟩) (dLen := n + 12) (dCap := n + 12) (sLen := 8) (sCap := 8) (by simp [Act.eval, Act.put]) (by simp [Act.eval, Act.put]) Hg5.out (nat_min_l _ _ _ (by rw [List.length_map, Fr.head_length]) (by omega)) (src_of_row Hh6.out) (by rw [List.length_map, Fr.head_length]; omega) (v8_one _) ?_); intro w2 hg2 ho2)
    have Hw2 := Lib.hid (Hw1.out.trans (ho2.out.1.mono (by omega)))
    have Hr2 := Lib.hid (Hr.out.below Hw2.out hB)
    have c2 : w2.cell? ⟨w.heap.size, 1, none⟩ = some (.slice A n cap) := (ho2.out.1.cell (p := ⟨w.heap.size, 1, none⟩) (Nat.lt_succ_self _)).trans ((Hbl.out.cell (p := ⟨w.heap.size, 1, none⟩) hlt).trans hc1)
    have Hh72 := Lib.hid ((ho2.out.2 g7 hne7).trans Hh7.out)
    clear Hh7 Hh6 Hbl Hg5 ho2 hc0 hc1
    have h8 : (8 : Int) ≤ (n : Int) + 12 := by omega
    have h8n : (8 : Int) + (n : Int) ≤ (n : Int) + 12 := by omega
    have hl1 : (splice Z 0 ((Fr.head kb n).map V8)).length = n + 12 := by
      rw [length_splice _ _ _ (by rw [List.length_map, Fr.head_length]; omega)]; exact hZl
    have hnl : (bs.map V8).length = n := by rw [List.length_map]; exact Hn.out.symm
    have hl2 : (splice (splice Z 0 ((Fr.head kb n).map V8)) 8 (bs.map V8)).length = n + 12 := by
      rw [length_splice _ _ _ (by rw [hl1, hnl]; omega)]; exact hl1
    have Hl1 := Lib.hid hl1; have Hl2 := Lib.hid hl2; have Hnl := Lib.hid hnl
    clear hl1 hl2 hnl
    go_region_law (refine step_copy_at (g := w.heap.size + 1) (off := 8) (cur := splice Z 0 ((Fr.head kb n).map V8)) (cs := bs.map V8) (t := 5) rfl (.tmp 32) (.tmp 34) rfl descU8s sizeU8 (dp := some ⟨w.heap.size + 1, 8, none⟩) (sp := A) (dLen := n + 4) (dCap := n + 4) (sLen := n) (sCap := cap) (by simp [Act.eval, Act.put]) (by simp [Act.eval, Act.put]) hg2.out (nat_min_l _ _ _ Hnl.out (by omega)) (rd_src (w := w2.drew) Hr2.out) (by rw [Hl1.out, Hnl.out]; omega) (v8_one _) ?_; intro w3 hg3 ho3)
    have Hw3 := Lib.hid (Hw2.out.trans ((Below.refl _ w2).drew.trans (ho3.out.1.mono (by omega))))
    have Hh73 : Hid (w3.heap[g7]? = _) := Lib.hid ((ho3.out.2 g7 hne7).trans Hh72.out)
    clear Hr2 c2 Hh72 Hw2 Hw1 hg2 ho3 h8n
    obtain ⟨m, em⟩ : ∃ m, m = 8 + n := ⟨_, rfl⟩
    have hw8 : IntKind.i64.wrap (8 + (n : Int)) = (m : Int) := by
      rw [em, IntWalk.i64_in _ (by omega)]; omega
    have hq : (m : Int) ≤ (n : Int) + 12 := by omega
    have hq2 : (n + 12 = m) = False := by rw [eq_iff_iff]; constructor <;> intro h <;> first | omega | cases h
    have hq3 : n + 12 - m = 4 := by omega
    have Hem := Lib.hid em
    clear em
    go_wp2_with fail
    go_region_law (refine step_copy_at (g := w.heap.size + 1) (off := m) (cur := splice (splice Z 0 ((Fr.head kb n).map V8)) 8 (bs.map V8)) (cs := (Crc.be (Crc.sum bs)).map V8) (t := 5) rfl (.tmp 39) (.tmp 40) rfl descU8s sizeU8 (dp := some ⟨w.heap.size + 1, m, none⟩) (sp := some ⟨g7, 0, none⟩) (dLen := 4) (dCap := 4) (sLen := 4) (sCap := 4) (by simp [Act.eval, Act.put]) (by simp [Act.eval, Act.put]) hg3.out rfl (src_of_row (w := w3.drew) Hh73.out) (by rw [Hl2.out]; show m + 4 ≤ n + 12; omega) (v8_one _) ?_; intro w4 hg4 ho4)
    have hx : splice (splice (splice Z 0 ((Fr.head kb n).map V8)) 8 (bs.map V8)) m ((Crc.be (Crc.sum bs)).map V8) = (Fr.encode kb bs).map V8 := by
      rw [Hem.out, splice_splice_splice _ _ _ _ 8 n (by rw [List.length_map]; rfl) Hnl.out (by rw [hZl]; show n + 12 = 8 + n + 4; omega), Hn.out]
      simp [Fr.encode]
    rw [hx] at hg4
    have Hw4 := Lib.hid (Hw3.out.trans ((Below.refl _ w3).drew.trans (ho4.out.1.mono (by omega))))
    clear ho4 hg3 Hw3 Hh73 hx
    go_wp2_with fail
    go_ret2
    refine ⟨_, _, rfl, ⟨?_, Or.inr ⟨_, _, _, rfl, by omega, hg4.out, Nat.le_refl _, by unfold maxLen; omega, ?_, ?_⟩⟩, Hw4.out⟩
    · rw [List.length_map, Fr.encode_length, ← Hn.out]; omega
    · rw [List.size_toArray, List.length_map, Fr.encode_length, ← Hn.out]; omega
    · rw [List.take_of_length_le]; rw [List.length_map, Fr.encode_length, ← Hn.out]; omega
end Go.Proofs.YtnbagbenpojpnaaDoor
