/- FrameTwo: the law and the walk -/
import Derived.Test.YtnbagbenpojpnaaDoorLawLaid
namespace Go.Proofs.YtnbagbenpojpnaaDoor
open Go.RowKit
set_option linter.unusedSimpArgs false
set_option linter.unusedVariables false
attribute [local go_sem ↓] loadF storeF
attribute [local go_sem] isLoadOf loadArg isRowAt_ptr rowAt_ptr blkOf_ptr aggOf_agg isAggV_agg isRow_alloc_new pair_cells
namespace Fr
theorem enc_list (k : BitVec 8) (p : List (BitVec 8)) : ∃ r, encode k p = 0x70#8 :: k :: BitVec.ofNat 8 (p.length / 256) :: BitVec.ofNat 8 p.length :: r := ⟨_, rfl⟩
/-- Of two frames neither one's bytes begin the other's. -/
theorem begins (k k' : BitVec 8) (p p' : List (BitVec 8)) (m : Nat) (hp : p.length ≤ 1024) (hp' : p'.length ≤ 1024) (hm : m = min (p.length + 12) (p'.length + 12))
    (h : (encode k p).take m = (encode k' p').take m) : k = k' ∧ p = p' := by
  have hm4 : m = (m - 4) + 4 := by omega
  have h0 := h
  obtain ⟨r, e⟩ := enc_list k p
  obtain ⟨r', e'⟩ := enc_list k' p'
  rw [e, e', hm4] at h
  simp only [List.take_succ_cons, List.cons.injEq, true_and] at h
  obtain ⟨h1, h2, h3, _⟩ := h
  have t2 := congrArg BitVec.toNat h2
  have t3 := congrArg BitVec.toNat h3
  rw [BitVec.toNat_ofNat, BitVec.toNat_ofNat] at t2 t3
  have hl : p.length = p'.length := by omega
  rw [List.take_of_length_le (by rw [encode_length]; omega), List.take_of_length_le (by rw [encode_length]; omega)] at h0
  refine ⟨h1, ?_⟩
  have a := enc_pOf k p [] (by omega)
  have b := enc_pOf k' p' [] (by omega)
  rw [h0, b] at a
  exact a.symm
end Fr
theorem enc_cases (k : Int) (bs : List (BitVec 8)) : (isK k = true ∧ bs.length ≤ 1024 ∧ encL k bs = Fr.encode (BitVec.ofInt 8 k) bs ∧ encE k bs = 0) ∨ (encL k bs = [] ∧ ((encE k bs == 0) = false)) := by
  unfold encL encE
  cases hk : isK k with
  | false => exact Or.inr ⟨by simp, by simp⟩
  | true =>
    by_cases hm : bs.length ≤ 1024
    · exact Or.inl ⟨rfl, hm, by rw [if_pos ⟨rfl, hm⟩], by rw [if_pos rfl, if_pos hm]⟩
    · exact Or.inr ⟨by rw [if_neg (by intro h; exact hm h.2)], by rw [if_pos rfl, if_neg hm]; rfl⟩
theorem two_eq (k k' : Int) (bs bs' : List (BitVec 8)) (m : Nat) (hk : isK k = true) (hk' : isK k' = true) (hp : bs.length ≤ 1024) (hp' : bs'.length ≤ 1024) (hm : m = min (bs.length + 12) (bs'.length + 12)) :
    (decide ((Fr.encode (BitVec.ofInt 8 k) bs).take m = (Fr.encode (BitVec.ofInt 8 k') bs').take m) == (decide (bs = bs') && (k == k'))) = true := by
  rw [beq_iff_eq, Bool.eq_iff_iff, decide_eq_true_eq, Bool.and_eq_true, decide_eq_true_eq, beq_iff_eq]
  constructor
  · intro h
    obtain ⟨h1, h2⟩ := Fr.begins _ _ _ _ m hp hp' hm h
    exact ⟨h2, by rw [kb_of hk, kb_of hk', h1]⟩
  · rintro ⟨rfl, rfl⟩; rfl
theorem quiet_two (cap cap' B B' m j : Nat) (bs bs' : List (BitVec 8)) (w : World) (h1 : m ≤ bs.length) (h2 : m ≤ bs'.length) (g : Nat) (g' : Nat)
    (hr : Rd w B (some ⟨g, 0, none⟩) (bs.map V8)) (hr' : Rd w B' (some ⟨g', 0, none⟩) (bs'.map V8)) :
    Calls Tryd.prog 15 #[.slice (some ⟨g, 0, none⟩) m cap, .slice (some ⟨g', 0, none⟩) m cap'] (w.drewN j) fun e w'' => e = .returned (.bool (decide (bs.take m = bs'.take m))) ∧ ∃ k, w'' = w.drewN k :=
  quiet_same _ _ m cap m cap' B B' j _ _ w (by rw [List.length_take]; omega) (by rw [List.length_take]; omega) (by intro h; cases h) (by intro h; cases h) (rd_take8 hr m) (rd_take8 hr' m)
set_option maxHeartbeats 4000000 in
theorem law_two (k : Int) (A : Option Addr) (n cap : Nat) (bs : List (BitVec 8)) (k' : Int) (A' : Option Addr) (n' cap' : Nat) (bs' : List (BitVec 8)) (w : World) (ha : In8 w A n cap bs) (ha' : In8 w A' n' cap' bs') (ht : TabIn w) :
    Calls Tryd.prog 10 #[VF k A n cap, VF k' A' n' cap'] w fun e w' => e = .returned (.bool true) ∧ Below w.heap.size w w' := by
  obtain ⟨hn, hc, hcm, hnil, hr⟩ := ha
  obtain ⟨hn', hc', hcm', hnil', hr'⟩ := ha'
  have Hn := Lib.hid hn; have Hnil := Lib.hid hnil; have Hr := Lib.hid hr; have Ht := Lib.hid ht
  have Hn' := Lib.hid hn'; have Hnil' := Lib.hid hnil'; have Hr' := Lib.hid hr'
  clear hn hnil hr ht hn' hnil' hr' hc hc' hcm hcm'
  go_enter Tryd.func10, Tryd.ntmps10
  go_wp2_with fail
  have hal : Below w.heap.size w ((w.alloc (Obj.cells #[Value.int IntKind.i64 k, Value.slice A n cap] 24)).alloc (Obj.cells #[Value.int IntKind.i64 k', Value.slice A' n' cap'] 24)) :=
    ((Below.refl _ _).alloc (Nat.le_refl _) _).alloc (by simp) _
  have hb0 := heap2_a w (Obj.cells #[Value.int IntKind.i64 k, Value.slice A n cap] 24) (Obj.cells #[Value.int IntKind.i64 k', Value.slice A' n' cap'] 24)
  have hb1 := heap2_b w (Obj.cells #[Value.int IntKind.i64 k, Value.slice A n cap] 24) (Obj.cells #[Value.int IntKind.i64 k', Value.slice A' n' cap'] 24)
  generalize (w.alloc (Obj.cells #[Value.int IntKind.i64 k, Value.slice A n cap] 24)).alloc (Obj.cells #[Value.int IntKind.i64 k', Value.slice A' n' cap'] 24) = W at *
  have hsW := lt_heap hb1
  refine (first_calls W (tabIn_of Ht.out hal)).mono ?_
  rintro e w1 ⟨rfl, hf1⟩
  have hs1 := hf1.size
  have hbox := (hf1.block _ (by omega)).trans hb0
  have hbox' := (hf1.block _ hsW).trans hb1
  have Hb1 := Lib.hid (hal.trans (hf1.mono (by omega)))
  have hrow1 : IsRow w1 w.heap.size 24 2 := ⟨_, hbox, rfl⟩
  have hro1 : rowOf w1 w.heap.size = #[.int .i64 k, .slice A n cap] := rowOf_eq hbox
  have Hbox := Lib.hid hbox; have Hbox' := Lib.hid hbox'
  clear hb0 hb1 hal hf1 hbox hbox'
  go_wp2_with fail
  refine (encode_any k A n cap w.heap.size bs w1 Hn.out (Hr.out.below Hb1.out (Nat.le_refl _)) Hb1.out.size (tabIn_of Ht.out Hb1.out)).mono ?_
  rintro e w2 ⟨hb2, A2, cap2, rfl, hown2⟩
  have hs2 := hb2.size
  have hbx2 := (hb2.block _ (by omega)).trans Hbox.out
  have hbx2' := (hb2.block _ (by omega)).trans Hbox'.out
  have Hb2 := Lib.hid (Hb1.out.trans (hb2.mono Hb1.out.size))
  have hrow2 : IsRow w2 (w.heap.size + 1) 24 2 := ⟨_, hbx2', rfl⟩
  have hro2 : rowOf w2 (w.heap.size + 1) = #[.int .i64 k', .slice A' n' cap'] := rowOf_eq hbx2'
  have Hbx2 := Lib.hid hbx2; have Hbx2' := Lib.hid hbx2'
  have Hown2 := Lib.hid hown2
  clear hown2 hb2 hrow1 hro1 Hbox Hbox' hbx2 hbx2'
  go_wp2_with fail
  refine (encode_any k' A' n' cap' w.heap.size bs' w2 Hn'.out (Hr'.out.below Hb2.out (Nat.le_refl _)) Hb2.out.size (tabIn_of Ht.out Hb2.out)).mono ?_
  rintro e w3 ⟨hb3, A3, cap3, rfl, hown3⟩
  have hs3 := hb3.size
  have hbx3 := (hb3.block _ (by omega)).trans Hbx2.out
  have hbx3' := (hb3.block _ (by omega)).trans Hbx2'.out
  have Hb3 := Lib.hid (Hb2.out.trans (hb3.mono Hb2.out.size))
  have Hown23 := Lib.hid (own_below Hown2.out hb3 (Nat.le_refl _))
  have Hown3 := Lib.hid hown3
  have Hbx3 := Lib.hid hbx3; have Hbx3' := Lib.hid hbx3'
  clear hown3 hb3 hrow2 hro2 Hbx2 Hbx2' Hown2 hbx3 hbx3'
  have he := encE_small k bs
  have he' := encE_small k' bs'
  have Hcs := Lib.hid (enc_cases k bs); have Hcs' := Lib.hid (enc_cases k' bs')
  obtain ⟨L, hL⟩ : ∃ L, L = encL k bs := ⟨_, rfl⟩
  obtain ⟨E, hE⟩ : ∃ E, E = encE k bs := ⟨_, rfl⟩
  obtain ⟨L', hL'⟩ : ∃ L, L = encL k' bs' := ⟨_, rfl⟩
  obtain ⟨E', hE'⟩ : ∃ E, E = encE k' bs' := ⟨_, rfl⟩
  rw [← hL] at Hcs Hown23 ⊢
  rw [← hE] at Hcs he ⊢
  rw [← hL'] at Hcs' Hown3 ⊢
  rw [← hE'] at Hcs' he' ⊢
  clear hL hE hL' hE'
  rcases Hcs.out with ⟨k1, k2, k3, rfl⟩ | ⟨rfl, z⟩
  · rcases Hcs'.out with ⟨j1, j2, j3, rfl⟩ | ⟨rfl, z'⟩
    · subst k3; subst j3
      rw [Fr.encode_length] at Hown23 Hown3 ⊢
      rw [Fr.encode_length]
      have l1 := Fr.encode_length (BitVec.ofInt 8 k) bs
      have l2 := Fr.encode_length (BitVec.ofInt 8 k') bs'
      obtain ⟨m, hm⟩ : ∃ m, m = min (bs.length + 12) (bs'.length + 12) := ⟨_, rfl⟩
      have Hteq := Lib.hid (two_eq k k' bs bs' m k1 j1 k2 j2 hm)
      obtain ⟨g, rfl, hcap⟩ := own_some Hown23.out (by omega)
      obtain ⟨g', rfl, hcap'⟩ := own_some Hown3.out (by omega)
      have Hra := Lib.hid (own_rd Hown23.out); have Hrb := Lib.hid (own_rd Hown3.out)
      have m1 : m ≤ bs.length + 12 := by omega
      have m2 : m ≤ bs'.length + 12 := by omega
      have i1 : (m : Int) ≤ (cap2 : Int) := by omega
      have i2 : (m : Int) ≤ (cap3 : Int) := by omega
      have Hm1 := Lib.hid (show m ≤ (Fr.encode (BitVec.ofInt 8 k) bs).length by omega)
      have Hm2 := Lib.hid (show m ≤ (Fr.encode (BitVec.ofInt 8 k') bs').length by omega)
      have hmx : max (m : Int) 0 = (m : Int) := by omega
      obtain ⟨a, ea⟩ : ∃ a, a = bs.length + 12 := ⟨_, rfl⟩
      obtain ⟨b, eb⟩ : ∃ b, b = bs'.length + 12 := ⟨_, rfl⟩
      rw [← ea] at hm ⊢
      rw [← eb] at hm ⊢
      clear l1 l2 Hown23 Hown3 Hcs Hcs' k1 k2 j1 j2 he he' m1 m2 ea eb hcap hcap'
      generalize Fr.encode (BitVec.ofInt 8 k) bs = X at *
      generalize Fr.encode (BitVec.ofInt 8 k') bs' = Y at *
      have hq : (m = b ∧ b < a) ∨ (m = a ∧ ¬ b < a) := by omega
      clear hm
      rcases hq with ⟨rfl, hlt⟩ | ⟨rfl, hlt⟩
      all_goals go_wp2_with (go_at_call 16; refine (num_calls _ _ (by omega) (by omega)).mono ?_; rintro e w' ⟨rfl, rfl⟩)
      all_goals go_quiet ((go_at_call 15; exact quiet_two _ _ _ _ _ _ X Y _ Hm1.out Hm2.out g g' Hra.out Hrb.out))
      all_goals (have hb4 : Below w.heap.size w (w3.drewN nq) := below_drewN Hb3.out nq)
      all_goals (have hx0 : (w3.drewN nq).heap[w.heap.size]? = some (.cells #[.int .i64 k, .slice A n cap] 24 (0, 0)) := Hbx3.out)
      all_goals (have hx1 : (w3.drewN nq).heap[w.heap.size + 1]? = some (.cells #[.int .i64 k', .slice A' n' cap'] 24 (0, 0)) := Hbx3'.out)
      all_goals (clear Hbx3 Hbx3' Hra Hrb Hm1 Hm2 hlt i1 i2 hmx)
      all_goals (generalize w3.drewN nq = w4 at *)
      all_goals (have hrow0 : IsRow w4 w.heap.size 24 2 := ⟨_, hx0, rfl⟩)
      all_goals (have hrow1 : IsRow w4 (w.heap.size + 1) 24 2 := ⟨_, hx1, rfl⟩)
      all_goals (have hro0 := rowOf_eq hx0)
      all_goals (have hro1 := rowOf_eq hx1)
      all_goals (have Hb4 := Lib.hid hb4)
      all_goals (clear hb4 hx0 hx1)
      all_goals go_wp2_with fail
      all_goals refine (sameF_calls k k' A A' n cap n' cap' w.heap.size w.heap.size bs bs' w4 Hn.out Hn'.out (fun h => (Hnil.out h).1) (fun h => (Hnil'.out h).1) (Hr.out.below Hb4.out (Nat.le_refl _)) (Hr'.out.below Hb4.out (Nat.le_refl _)) Hb4.out.size Hb4.out.size).mono ?_
      all_goals rintro e w5 ⟨rfl, hb5⟩
      all_goals (have Hb5 := Lib.hid (Hb4.out.trans (hb5.mono Hb4.out.size)))
      all_goals (clear hb5 hrow0 hrow1 hro0 hro1)
      all_goals (generalize (decide (bs = bs') && (k == k')) = d2 at *)
      all_goals (generalize decide (X.take m = Y.take m) = d1 at *)
      all_goals (obtain rfl : d1 = d2 := beq_iff_eq.1 Hteq.out)
      all_goals go_wp2_with fail
      all_goals go_ret
      all_goals exact ⟨by simp, Hb5.out⟩
    · have zn' : (E' != 0) = true := by rw [bne, z']; rfl
      clear Hcs Hcs' k1 k2 k3
      go_wp2_with (go_at_call 16; refine (num_calls _ _ (by omega) (by omega)).mono ?_; rintro e w' ⟨rfl, rfl⟩)
      go_ret
      exact ⟨rfl, Hb3.out⟩
  · rcases Hcs'.out with ⟨j1, j2, j3, rfl⟩ | ⟨rfl, z'⟩
    · have zn : (E != 0) = true := by rw [bne, z]; rfl
      clear Hcs Hcs' j1 j2 j3
      go_wp2_with (go_at_call 16; refine (num_calls _ _ (by omega) (by omega)).mono ?_; rintro e w' ⟨rfl, rfl⟩)
      go_ret
      exact ⟨rfl, Hb3.out⟩
    · have zn : (E != 0) = true := by rw [bne, z]; rfl
      have zn' : (E' != 0) = true := by rw [bne, z']; rfl
      clear Hcs Hcs'
      go_wp2_with (go_at_call 16; refine (num_calls _ _ (by omega) (by omega)).mono ?_; rintro e w' ⟨rfl, rfl⟩)
      go_ret
      exact ⟨rfl, Hb3.out⟩
end Go.Proofs.YtnbagbenpojpnaaDoor
