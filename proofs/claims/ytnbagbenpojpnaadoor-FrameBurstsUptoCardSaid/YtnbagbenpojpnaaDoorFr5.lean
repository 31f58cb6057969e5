/- pithref3.Decode -/
import Derived.Test.YtnbagbenpojpnaaDoorFr4
import Derived.Test.YtnbagbenpojpnaaDoorFrEnc
namespace Go.Proofs.YtnbagbenpojpnaaDoor
open Go.RowKit
set_option linter.unusedSimpArgs false
set_option linter.unusedVariables false
attribute [local go_sem ↓] loadF storeF
attribute [local go_sem] isLoadOf loadArg isRowAt_ptr rowAt_ptr blkOf_ptr aggOf_agg isAggV_agg isRow_alloc_new pair_cells
theorem size_drew' (w : World) : w.drew.heap.size = w.heap.size := rfl
theorem isRow_after {w w' : World} {cs : Array Value} {t n : Nat} (hb : Below (w.alloc (.cells cs t)).heap.size (w.alloc (.cells cs t)) w') (hs : cs.size = n) : IsRow w' w.heap.size t n :=
  ⟨cs, (hb.block _ (by simp)).trans (heap_alloc_new _ _), hs⟩
theorem isRow_after_drew {w w' : World} {cs : Array Value} {t n : Nat} (hb : Below (w.alloc (.cells cs t)).drew.heap.size (w.alloc (.cells cs t)).drew w') (hs : cs.size = n) : IsRow w' w.heap.size t n :=
  isRow_after ((Below.refl _ _).drew.trans hb) hs
theorem own_setRow {w : World} {base : Nat} {t : TypeId} {v : Value} {n : Nat} {xs : List Value} (h : w.ownsRow base t 1 v n xs) (g : Nat) (cs : Array Value) (hg : g < base) : (w.setRow g cs).ownsRow base t 1 v n xs := by
  refine ⟨h.1, ?_⟩
  rcases h.2 with hn | ⟨g', cap, cur, hv, hb, hgg, rest⟩
  · exact Or.inl hn
  · exact Or.inr ⟨g', cap, cur, hv, hb, by rw [setRow_other _ _ _ _ (by omega)]; exact hgg, rest⟩
set_option maxHeartbeats 1000000 in
theorem rdecode_short (A : Option Addr) (n cap : Nat) (bs : List (BitVec 8)) (w : World) (hn : n = bs.length) (h : n < 12) :
    Calls Tryd.prog 19 #[.slice A n cap] w (DecAns bs w) := by
  have hb : (n : Int) < 12 := by omega
  have Hg := Lib.hid (show Fr.good bs = false by unfold Fr.good; rw [decide_eq_false (by omega)]; rfl)
  clear hn
  go_enter Tryd.func19, Tryd.ntmps19
  go_wp2_with fail
  refine bodyPost_ret (results_cell3 rfl _ _ w.heap.size 24 _ (0, 0) rfl (setRow_heap _ _ _ _ _ _ (heap_alloc_new _ _)) aggFrame sizeFrame) rfl ?_
  exact ⟨below_setRow ((Below.refl _ _).alloc (Nat.le_refl _) _) (Nat.le_refl _) _, Or.inl ⟨Hg.out, rfl⟩⟩
theorem c1_keep {W w' w'' : World} {blk o : Nat} {b1 : BitVec 8} (h : (w'.cell? ⟨blk, o, none⟩ = some (V8 b1) ∧ w'.cell? ⟨blk, o, none⟩ = some (V8 b1)) ∧ blk < W.heap.size ∧ Below W.heap.size W w') (hb : Below W.heap.size w' w'') :
    (w''.cell? ⟨blk, o, none⟩ = some (V8 b1) ∧ w''.cell? ⟨blk, o, none⟩ = some (V8 b1)) ∧ blk < W.heap.size ∧ Below W.heap.size W w'' := by
  have hk : ∀ o, w''.cell? ⟨blk, o, none⟩ = w'.cell? ⟨blk, o, none⟩ := fun o => hb.cell (p := ⟨blk, o, none⟩) h.2.1
  exact ⟨⟨(hk _).trans h.1.1, (hk _).trans h.1.1⟩, h.2.1, h.2.2.trans hb⟩
theorem rd_take8 {w : World} {B blk off : Nat} {bs : List (BitVec 8)} (h : Rd w B (some ⟨blk, off, none⟩) (bs.map V8)) (n : Nat) : Rd w B (some ⟨blk, off, none⟩) ((bs.take n).map V8) := by
  have := rd_sub8 h 0 n
  simpa using this
theorem ofInt_n8 (b : BitVec 8) : BitVec.ofInt 8 (n8 b : Int) = b := by unfold n8; simp
theorem good_ref {bs : List (BitVec 8)} {n m e : Nat} {b1 : BitVec 8} (hn : n = bs.length) (h12 : ¬ n < 12) (ko : Fr.kOf bs = b1) (em : m = Fr.nOf bs) (ee : e = 12 + m) (hl : m + 12 ≤ n) (hp : (Fr.pOf bs).length = m) :
    Fr.good bs = (decide (encE (n8 b1 : Int) (Fr.pOf bs) = 0) && decide (encL (n8 b1 : Int) (Fr.pOf bs) = bs.take e)) := by
  have hk : Fr.isKb (Fr.kOf bs) = isK (n8 b1 : Int) := by
    rw [ko]; unfold Fr.isKb isK n8
    rw [Bool.eq_iff_iff]; simp; omega
  unfold Fr.good encE encL
  rw [hk, ← em, ← hn, decide_eq_true (show 12 ≤ n by omega), Bool.true_and, decide_eq_true (show 12 + m ≤ n by omega), Bool.and_true, ← ee, hp, ofInt_n8, ko]
  cases h1 : isK (n8 b1 : Int) with
  | false => simp
  | true =>
    by_cases h2 : m ≤ 1024
    · simp [h2, eq_comm]
    · simp [h2]
set_option maxHeartbeats 4000000 in
theorem rdecode_calls (A : Option Addr) (n cap B : Nat) (bs : List (BitVec 8)) (w : World) (hn : n = bs.length) (hm : n ≤ maxLen) (hr : Rd w B A (bs.map V8)) (hB : B ≤ w.heap.size) (hcp : n ≤ cap) :
    Calls Tryd.prog 19 #[.slice A n cap] w (DecAns bs w) := by
  by_cases h : n < 12
  · exact rdecode_short A n cap bs w hn h
  obtain ⟨blk, off, b0, b1, b2, b3, b4, b5, b6, b7, h8⟩ := eight hn h hr hB
  obtain ⟨rfl, hlt, c0, c1, c2, c3, c4, c5, c6, c7, tk, no, ko⟩ := h8
  have hb : ¬ (n : Int) < 12 := by omega
  have h1 : (1 : Int) < (n : Int) := by omega
  have h2 : (2 : Int) < (n : Int) := by omega
  have h3 : (3 : Int) < (n : Int) := by omega
  unfold maxLen at hm
  have Hno := Lib.hid (wrap_nOf bs b2 b3 no)
  have Hr := Lib.hid hr; have Hn := Lib.hid hn; have Htk := Lib.hid tk; have Hko := Lib.hid ko
  have hmb : Fr.nOf bs ≤ 65535 := by have := n8_lt b2; have := n8_lt b3; omega
  clear hn hr tk ko no c0 c4 c5 c6 c7
  go_enter Tryd.func19, Tryd.ntmps19
  go_wp2_with fail
  go_quiet (fail)
  rw [Hno.out]
  have hbw : Below w.heap.size w ((w.alloc (.cells #[.int .i64 0, .slice none 0 0] 24)).drewN nq) := below_drewN ((Below.refl _ _).alloc (Nat.le_refl _) _) nq
  have hg0 : ((w.alloc (.cells #[.int .i64 0, .slice none 0 0] 24)).drewN nq).heap[w.heap.size]? = some (.cells #[.int .i64 0, .slice none 0 0] 24 (0, 0)) := heap_alloc_new _ _
  have k1 := (hbw.cell (p := ⟨blk, off + 1, none⟩) hlt).trans c1
  clear c1 c2 c3
  generalize (w.alloc (.cells #[.int .i64 0, .slice none 0 0] 24)).drewN nq = W at *
  have hs0 := lt_heap hg0
  have hr0 := Hr.out.below hbw hB
  have hrow : IsRow W w.heap.size 24 2 := ⟨_, hg0, rfl⟩
  have Hbw := Lib.hid hbw; have Hg0 := Lib.hid hg0; have Hr0 := Lib.hid hr0
  clear hbw hg0 hr0
  obtain ⟨m, em⟩ : ∃ m, m = Fr.nOf bs := ⟨_, rfl⟩
  rw [← em] at hmb ⊢
  have Hem := Lib.hid em; clear em
  obtain ⟨e, ee⟩ : ∃ e, e = 12 + m := ⟨_, rfl⟩
  have he1 : IntKind.i64.wrap (12 + (m : Int)) = (e : Int) := by rw [IntWalk.i64_in _ (by omega)]; omega
  have he2 : (12 : Int) + (m : Int) = (e : Int) := by omega
  have he3 : wrap64 (12 + (m : Int)) = (e : Int) := by unfold wrap64; omega
  by_cases hl : m + 12 ≤ n
  · have hll : decide ((n : Int) < (e : Int)) = false := by rw [decide_eq_false_iff_not]; omega
    obtain ⟨q, eq⟩ : ∃ q, q = 8 + m := ⟨_, rfl⟩
    have hw1' : IntKind.i64.wrap (8 + (m : Int)) = (q : Int) := by rw [IntWalk.i64_in _ (by omega)]; omega
    have he8 : (8 : Int) + (m : Int) = (q : Int) := by omega
    have i1 : (8 : Int) ≤ (q : Int) := by omega
    have i2 : (q : Int) ≤ (cap : Int) := by omega
    have i3 : (e : Int) ≤ (cap : Int) := by omega
    have hwq : IntKind.i64.wrap (q : Int) = (q : Int) := IntWalk.i64_in _ (by omega)
    have hmx : max (q : Int) 0 = (q : Int) := by omega
    have hq8 : q - 8 = m := by omega
    have hqc : (cap = 8) = False := by rw [eq_iff_iff]; constructor <;> intro hx <;> first | omega | cases hx
    have hq0 : (8 = cap) = False := by rw [eq_iff_iff]; constructor <;> intro hx <;> first | omega | cases hx
    have hw8 : wrap64 (n8 b1 : Int) = (n8 b1 : Int) := wrap_n8 b1
    have hw9 : IntKind.i64.wrap (n8 b1 : Int) = (n8 b1 : Int) := IntWalk.i64_in _ (by have := n8_lt b1; omega)
    have Hee := Lib.hid ee; have Heq := Lib.hid eq
    have hpn : (Fr.pOf bs).length = m := by rw [Fr.pOf_length (by rw [← Hem.out, ← Hn.out]; omega)]; exact Hem.out.symm
    have Hpn := Lib.hid hpn
    have Hrp := Lib.hid (show Rd W B (some ⟨blk, off + 8, none⟩) ((Fr.pOf bs).map V8) from rd_sub8 Hr0.out 8 (Fr.nOf bs))
    have hBw : B ≤ W.heap.size := by omega
    have hlw : blk < W.heap.size := by omega
    clear ee eq hpn
    go_wp2_with fail
    go_cut [6] (fun s6 w' => ∃ g A' cap', s6 = .pointer (some ⟨g, 0, none⟩) ∧ W.heap.size ≤ g ∧ w'.heap[g]? = some (.cells #[.int .i64 (n8 b1 : Int), .slice A' m cap'] 24 (0, 0)) ∧
      w'.ownsRow W.heap.size 5 1 (.slice A' m cap') m ((Fr.pOf bs).map V8) ∧ Below W.heap.size W w')
    case first =>
      have hst : (W.cell? ⟨blk, off + 1, none⟩ = some (V8 b1) ∧ W.cell? ⟨blk, off + 1, none⟩ = some (V8 b1)) ∧ blk < W.heap.size ∧ Below W.heap.size W W := ⟨⟨k1, k1⟩, hlw, Below.refl _ _⟩
      go_region_held3 (fun w' => (w'.cell? ⟨blk, off + 1, none⟩ = some (V8 b1) ∧ w'.cell? ⟨blk, off + 1, none⟩ = some (V8 b1)) ∧ blk < W.heap.size ∧ Below W.heap.size W w')
        ((rename (_ ∧ _) ∧ _ ∧ Below _ _ _ => hS; first
          | exact hS
          | exact c1_keep hS (Below.refl _ _).drew
          | exact c1_keep hS ((Below.refl _ _).alloc hS.2.2.size _)
          | exact c1_keep hS (Below.mono (by assumption) hS.2.2.size)
          | exact c1_keep hS (below_setRow (Below.refl _ _) (by have := hS.2.2.size; (try simp only [World.size_alloc] at *); omega) _)))
        ((go_at_call 18; rename (_ ∧ _) ∧ _ ∧ Below _ _ _ => hS; refine (bytes_calls _ m _ B (Fr.pOf bs) _ Hpn.out.symm (by omega) (by intro hx; cases hx) (Nat.le_trans hBw hS.2.2.size) (Hrp.out.below hS.2.2 hBw)).mono ?_; rintro e w' ⟨A', cap', rfl, hown, hb⟩; have hsz := Nat.le_trans hS.2.2.size hb.size; try (have hrw := isRow_after_drew (n := 2) hb rfl)))
      all_goals (rename (_ ∧ _) ∧ _ ∧ Below _ _ _ => hF; have HF := Lib.hid hF; clear hF)
      all_goals (have Hown := Lib.hid hown; have Hbw2 := Lib.hid hb; clear hown hb hst)
      all_goals (go_wp2_with fail; go_meet)
      · exact ⟨_, _, _, rfl, hsz, setRow_heap _ _ _ _ _ _ (heap_alloc_new _ _), own_below Hown.out (below_setRow ((Below.refl _ _).alloc (Nat.le_refl _) _) (Nat.le_refl _) _) (Nat.le_refl _), HF.out.2.2⟩
      · exact ⟨_, _, _, rfl, Nat.le_refl _, setRow_heap _ _ _ _ _ _ ((Hbw2.out.block _ (by simp)).trans (heap_alloc_new _ _)), own_base (own_setRow Hown.out _ _ (by simp)) (by simp), HF.out.2.2⟩
    case rest =>
      obtain ⟨g, A', cap', rfl, hgg, hcell, hown, hbc⟩ := hcut
      have hsc := hbc.size
      have hrowg : IsRow wc g 24 2 := ⟨_, hcell, rfl⟩
      have hrog : rowOf wc g = #[.int .i64 (n8 b1 : Int), .slice A' m cap'] := rowOf_eq hcell
      have Hown := Lib.hid hown; have Hcell := Lib.hid hcell; have Hbc := Lib.hid hbc
      have hgl := lt_heap hcell
      clear hown hcell hbc k1 hrow
      go_wp2_with fail
      refine (rencode_any (n8 b1 : Int) A' m cap' wc.heap.size (Fr.pOf bs) wc Hpn.out.symm (own_nil Hown.out) (own_rd Hown.out) (Nat.le_refl _)).mono ?_
      rintro e' w2 ⟨hb2, A2, cap2, rfl, hown2⟩
      have hs2 := hb2.size
      have Hbw2 := Lib.hid (Hbw.out.trans ((Hbc.out.mono (show w.heap.size ≤ W.heap.size by omega)).trans (hb2.mono (show w.heap.size ≤ wc.heap.size by omega))))
      have hr2 := Hr.out.below Hbw2.out hB
      have hg2 := (hb2.block _ hgl).trans Hcell.out
      have hres := ((Hbc.out.trans (hb2.mono hsc)).block _ hs0).trans Hg0.out
      have hown' := own_below Hown.out hb2 (Nat.le_refl _)
      have hrow2 : IsRow w2 g 24 2 := ⟨_, hg2, rfl⟩
      have hro2 : rowOf w2 g = #[.int .i64 (n8 b1 : Int), .slice A' m cap'] := rowOf_eq hg2
      have hrowr : IsRow w2 w.heap.size 24 2 := ⟨_, hres, rfl⟩
      have hpc : Cells1 #[.int .i64 (n8 b1 : Int), .slice A' m cap'] 2 := pair_cells _ _ _ _
      have Hr2 := Lib.hid hr2; have Hown2 := Lib.hid hown2; have Hown' := Lib.hid hown'; have Hres := Lib.hid hres
      have Hgood := Lib.hid (good_ref Hn.out h Hko.out Hem.out Hee.out hl Hpn.out)
      have hgw : g ≠ w.heap.size := by omega
      clear hb2 hr2 hown2 hown' hres hg2 hrowg hrog
      obtain ⟨E, hE⟩ : ∃ E, E = encE (n8 b1 : Int) (Fr.pOf bs) := ⟨_, rfl⟩
      obtain ⟨L, hL⟩ : ∃ L, L = encL (n8 b1 : Int) (Fr.pOf bs) := ⟨_, rfl⟩
      rw [← hE, ← hL] at Hgood
      rw [← hL] at Hown2
      rw [← hE, ← hL]
      have hEE : E = 0 ∨ E = 31 ∨ E = 30 := by
        rw [hE]; unfold encE; split
        · split
          · exact Or.inl rfl
          · exact Or.inr (Or.inl rfl)
        · exact Or.inr (Or.inr rfl)
      have hel : e ≤ n := by omega
      have hte : e = (bs.take e).length := by rw [List.length_take, ← Hn.out]; omega
      have Hte := Lib.hid hte; clear hte hE hL
      obtain ⟨S, hS⟩ : ∃ S, S = decide (L = bs.take e) := ⟨_, rfl⟩
      rw [← hS] at Hgood
      have HS := Lib.hid hS; clear hS
      go_wp2_with fail
      refine (same_calls A2 (some ⟨blk, off, none⟩) L.length cap2 e cap _ B L (bs.take e) w2 rfl Hte.out (fun hx => (own_nil Hown2.out hx).1) (by intro hx; cases hx) (own_rd Hown2.out) (rd_take8 Hr2.out e)).mono ?_
      rintro e' w' ⟨rfl, rfl⟩
      rw [← HS.out]
      cases hgd : Fr.good bs with
      | true =>
        have hz := Hgood.out
        rw [hgd] at hz
        have hz' := hz.symm
        rw [Bool.and_eq_true, decide_eq_true_eq] at hz'
        obtain ⟨rfl, rfl⟩ := hz'
        have Hgd := Lib.hid hgd
        clear hz hgd hEE Hgood HS
        go_wp2_with fail
        refine bodyPost_ret (results_cell3 rfl _ _ w.heap.size 24 _ (0, 0) rfl (setRow_heap _ _ _ _ _ _ Hres.out) aggFrame sizeFrame) rfl ?_
        refine ⟨below_setRow Hbw2.out (Nat.le_refl _) _, Or.inr ⟨Hgd.out, A', cap', ?_, ?_⟩⟩
        · have e1 := Hem.out; have e2 := Hko.out; have e3 := Hee.out
          rw [← e1, e2, show m + 12 = e by omega]; rfl
        · have e1 := Hem.out
          rw [← e1]
          exact own_base (own_setRow Hown'.out _ _ (by omega)) (by omega)
      | false =>
        have hz := Hgood.out
        rw [hgd] at hz
        have Hgd := Lib.hid hgd
        clear hgd Hgood HS
        rcases hEE with rfl | rfl | rfl
        · have hz' := hz.symm
          rw [decide_eq_true rfl, Bool.true_and] at hz'
          subst hz'
          clear hz
          go_wp2_with fail
          refine bodyPost_ret (results_cell3 rfl _ _ w.heap.size 24 _ (0, 0) rfl (setRow_heap _ _ _ _ _ _ Hres.out) aggFrame sizeFrame) rfl ?_
          refine ⟨below_setRow Hbw2.out (Nat.le_refl _) _, Or.inl ⟨Hgd.out, rfl⟩⟩
        · clear hz
          go_wp2_with fail
          refine bodyPost_ret (results_cell3 rfl _ _ w.heap.size 24 _ (0, 0) rfl (setRow_heap _ _ _ _ _ _ Hres.out) aggFrame sizeFrame) rfl ?_
          refine ⟨below_setRow Hbw2.out (Nat.le_refl _) _, Or.inl ⟨Hgd.out, rfl⟩⟩
        · clear hz
          go_wp2_with fail
          refine bodyPost_ret (results_cell3 rfl _ _ w.heap.size 24 _ (0, 0) rfl (setRow_heap _ _ _ _ _ _ Hres.out) aggFrame sizeFrame) rfl ?_
          refine ⟨below_setRow Hbw2.out (Nat.le_refl _) _, Or.inl ⟨Hgd.out, rfl⟩⟩
  · have hll : decide ((n : Int) < (e : Int)) = true := by rw [decide_eq_true_eq]; omega
    have Hgd := Lib.hid (show Fr.good bs = false by
      rw [good_eq Hn.out h Htk.out Hko.out Hem.out, decide_eq_false hl]; simp)
    have he4 : (n : Int) < (e : Int) := by omega
    clear k1 hl hll ee
    go_wp2_with fail
    refine bodyPost_ret (results_cell3 rfl _ _ w.heap.size 24 _ (0, 0) rfl (setRow_heap _ _ _ _ _ _ Hg0.out) aggFrame sizeFrame) rfl ?_
    refine ⟨below_setRow Hbw.out (Nat.le_refl _) _, Or.inl ⟨Hgd.out, rfl⟩⟩
end Go.Proofs.YtnbagbenpojpnaaDoor
