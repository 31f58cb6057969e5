/- LayoutBalances: the walk -/
import Derived.Test.YtlceolhfkioojaaLaK
namespace Go.Proofs.Ytlceolhfkioojaa
open Go.ChangeShapes Go.WideShapes Go.ChangeAt Go.RowKit
set_option linter.unusedSimpArgs false
set_option linter.unusedVariables false
theorem rem_k (a : Int) (k : Nat) (hk : k ≤ 65536) (h0 : 0 < k) : ∃ T : Nat, T < k ∧ (a.tmod (k : Int) + (k : Int)).tmod (k : Int) = (T : Int) ∧ a.tmod (k : Int) < (k : Int) ∧ -(k : Int) < a.tmod (k : Int) := by
  have h1 := Int.tmod_lt_of_pos a (show (0 : Int) < (k : Int) by omega)
  have h2 := Int.lt_tmod_of_pos a (show (0 : Int) < (k : Int) by omega)
  generalize a.tmod (k : Int) = r at *
  have h3 := Int.tmod_nonneg (k : Int) (show 0 ≤ r + (k : Int) by omega)
  have h4 := Int.tmod_lt_of_pos (r + (k : Int)) (show (0 : Int) < (k : Int) by omega)
  exact ⟨((r + (k : Int)).tmod (k : Int)).toNat, by omega, by omega, h1, h2⟩
set_option maxHeartbeats 8000000 in
set_option maxRecDepth 20000 in
theorem law_balances (A : Option Addr) (k cap : Nat) (zs : List Int) (s at0 tz : Int) (w : World) (ha : InI w A k cap zs) (hsw : (Lit.int .i64 s).wf = true) (haw : (Lit.int .i64 at0).wf = true) (htw : (Lit.int .i64 tz).wf = true) :
    Calls Try.prog 4 #[.slice A k cap, .int .i64 s, .int .i64 at0, .int .i64 tz] w fun e w' => e = .returned (.bool true) ∧ Below w.heap.size w w' := by
  obtain ⟨hk, hc, hcm, hnil, hr, hz⟩ := ha
  have hsb := bounds_i64 hsw
  have Hk := Lib.hid hk; have Hr := Lib.hid hr; have Hcm := Lib.hid hcm
  unfold maxLen at hcm
  clear hk hnil hr hz hsw haw htw
  go_enter Try.func4, Try.ntmps4
  go_wp2_with fail
  refine (first_calls w).mono ?_
  rintro e w1 ⟨rfl, hb1⟩
  have hs1 := hb1.size
  have Hb1 := Lib.hid hb1
  clear hb1
  by_cases hbig : k ≤ 65536
  · have hbi : ¬ (65536 : Int) < (k : Int) := by omega
    go_wp2_with fail
    refine (more_calls A k cap w.heap.size zs w1 Hk.out (by omega) hs1 (Hr.out.below Hb1.out (Nat.le_refl _))).mono ?_
    rintro e w2 ⟨A2, cap2, rfl, hown2, hb2⟩
    have hs2 := hb2.size
    obtain ⟨p1, p2⟩ := own_cap hown2
    obtain ⟨gc, rfl⟩ := own_some1 hown2 (by omega)
    have hgc1 := (hown2.lt gc rfl).1
    have hgc2 := (hown2.lt gc rfl).2
    have Hb2 := Lib.hid (Hb1.out.trans (hb2.mono hs1)); have Hown2 := Lib.hid hown2
    have P2 := Lib.hid p2
    unfold maxLen at p2
    have q1 : (k : Int) ≤ (k : Int) + 2 := by omega
    have q2 : (k : Int) + 2 ≤ (cap2 : Int) := by omega
    clear hb2 hown2
    go_wp2_with fail
    go_loopw [12] (fun i wr => ∃ (a : Nat) (ys : List Int), i = .int .i64 (a : Int) ∧ a ≤ 2 ∧ ys.length = k ∧ wr.ownsRow w1.heap.size 3 1 (.slice (some ⟨gc, 0, none⟩) (k + 2) cap2) (k + 2) ((ys ++ [-77, -78]).map VI) ∧ Below w.heap.size w wr ∧ w2.heap.size ≤ wr.heap.size) (fun i _ => 2 - (intOf i).toNat)
    case atStart => exact ⟨0, zs, rfl, by omega, Hk.out.symm, Hown2.out, Hb2.out, Nat.le_refl _⟩
    case round =>
      obtain ⟨a, ys, rfl, ha, hys, hown, hbl, hsz2⟩ := hrel
      have Hys := Lib.hid hys.symm; have Hown := Lib.hid hown; have Hbl := Lib.hid hbl
      have Hlen := Lib.hid (show k + 2 = (ys ++ [-77, -78]).length by rw [List.length_append, hys]; rfl)
      clear hys hown hbl
      by_cases hlt : a < 2
      · have l1 : (a : Int) < 2 := by omega
        go_wp2_with fail
        refine (ints_calls (some ⟨gc, 0, none⟩) (k + 2) cap2 wr.heap.size (ys ++ [-77, -78]) wr Hlen.out (by omega) (Nat.le_refl _) (own_rd Hown.out)).mono ?_
        rintro e w3 ⟨A3, cap3, rfl, hown3, hb3⟩
        obtain ⟨p3, p4⟩ := own_cap hown3
        obtain ⟨g3, rfl⟩ := own_some1 hown3 (by omega)
        have Hb3 := Lib.hid (Hbl.out.trans (hb3.mono Hbl.out.size)); have Hownc3 := Lib.hid (own_below Hown.out hb3 (Nat.le_refl _)); have Hown3 := Lib.hid hown3
        have hw3 : w2.heap.size ≤ w3.heap.size := Nat.le_trans hsz2 hb3.size
        have q3 : (k : Int) ≤ (cap3 : Int) := by omega
        have P4 := Lib.hid p4
        unfold maxLen at p4
        clear hb3 hown3 Hown Hbl
        go_wp2_with fail
        refine (Balanced_calls (some ⟨gc, 0, none⟩) k (k + 2) w3.heap.size ys s w3 Hys.out (by omega) (by unfold maxLen; omega) (Nat.le_refl _) (rd_preI (own_rd Hownc3.out))).mono ?_
        rintro e w4 ⟨hb4, hans⟩
        have Hb4 := Lib.hid (Hb3.out.trans (hb4.mono Hb3.out.size)); have Hownc4 := Lib.hid (own_below Hownc3.out hb4 (Nat.le_refl _)); have Hown4 := Lib.hid (own_below Hown3.out hb4 (Nat.le_refl _))
        have hw4 : w2.heap.size ≤ w4.heap.size := Nat.le_trans hw3 hb4.size
        clear hb4 Hownc3 Hown3 Hb3
        have hsame := fun W (h1 : W.ownsRow w1.heap.size 3 1 (.slice (some ⟨gc, 0, none⟩) (k + 2) cap2) (k + 2) ((ys ++ [-77, -78]).map VI)) (h2 : W.ownsRow wr.heap.size 3 1 (.slice (some ⟨g3, 0, none⟩) (k + 2) cap3) (k + 2) ((ys ++ [-77, -78]).map VI)) =>
          sameI_calls (some ⟨gc, 0, none⟩) (some ⟨g3, 0, none⟩) (k + 2) cap2 (k + 2) cap3 _ _ (ys ++ [-77, -78]) (ys ++ [-77, -78]) W Hlen.out Hlen.out p1 p3 P2.out P4.out (own_rd h1) (own_rd h2)
        have Hsame := Lib.hid hsame
        clear hsame
        rcases hans with ⟨h0, g, A5, cap5, rfl, hlay⟩ | ⟨hne, rfl⟩
        · have H0 := Lib.hid h0; have Hgood := Lib.hid (La.good_bal h0); have Hlay := Lib.hid hlay
          have hs0 : 0 ≤ s := by
            have hm : La.many ys.length s = true := by
              unfold La.balE at h0
              split at h0
              · cases h0
              · split at h0
                · split at h0
                  · assumption
                  · cases h0
                · cases h0
            rcases La.many_spec hm with ⟨_, rfl⟩ | ⟨h, _⟩ <;> omega
          clear h0 hlay
          go_wp2_with fail
          refine (Hsame.out w4 Hownc4.out Hown4.out).mono ?_
          rintro e w5 ⟨rfl, k5, rfl⟩
          first | rw [decide_eq_true rfl] | rw [decide_eq_true trivial]
          have Hb5 := Lib.hid (below_drewN Hb4.out k5); have Hownc5 := Lib.hid (own_below Hownc4.out (below_drewN (Below.refl _ _) k5) (Nat.le_refl _)); have Hown5 := Lib.hid (own_below Hown4.out (below_drewN (Below.refl _ _) k5) (Nat.le_refl _)); have Hlay5 := Lib.hid (Hlay.out.below (below_drewN (Below.refl _ _) k5))
          have hw5 : w2.heap.size ≤ (w4.drewN k5).heap.size := hw4
          generalize w4.drewN k5 = w5 at *
          clear Hb4 Hownc4 Hown4 Hlay Hsame
          go_wp2_with fail
          refine (rBalanced_calls (some ⟨g3, 0, none⟩) k cap3 w5.heap.size ys s w5 Hys.out (by omega) P4.out (Nat.le_refl _) (rd_preI (own_rd Hown5.out))).mono ?_
          rintro e w6 ⟨hb6, (⟨_, A6, cap6, rfl, hown6⟩ | ⟨hne, _⟩)⟩
          case inr => exact absurd H0.out hne
          obtain ⟨p5, p6⟩ := own_cap hown6
          have Hb6 := Lib.hid (Hb5.out.trans (hb6.mono Hb5.out.size)); have Hownc6 := Lib.hid (own_below Hownc5.out hb6 (Nat.le_refl _)); have Hlay6 := Lib.hid (Hlay5.out.below hb6); have Hown6 := Lib.hid hown6
          have hw6 : w2.heap.size ≤ w6.heap.size := Nat.le_trans hw5 hb6.size
          clear hb6 hown6 Hb5 Hownc5 Hown5 Hlay5
          generalize La.balL ys s.toNat s.toNat = cuts at *
          generalize s.toNat = S at *
          go_wp2_with (go_at_call 15; refine (num_calls 0 _ (by omega) (by omega)).mono ?_; rintro e w' ⟨rfl, rfl⟩)
          have hb7 := lit_below w6 #[.int .i64 0, .int .i64 ((k : Int) - 1), .int .i64 (k : Int), .int .i64 s, .int .i64 (s - 1)] 3
          have hl7 : w6.heap.size + 1 ≤ (w6.alloc (.cells #[.int .i64 0, .int .i64 ((k : Int) - 1), .int .i64 (k : Int), .int .i64 s, .int .i64 (s - 1)] 3)).heap.size := by simp
          have Hr7 := Lib.hid (rd_fresh w6 _ #[.int .i64 0, .int .i64 ((k : Int) - 1), .int .i64 (k : Int), .int .i64 s, .int .i64 (s - 1)] 3 (0, 0) ([0, (k : Int) - 1, (k : Int), s, s - 1].map VI) rfl rfl)
          generalize w6.alloc (.cells #[.int .i64 0, .int .i64 ((k : Int) - 1), .int .i64 (k : Int), .int .i64 s, .int .i64 (s - 1)] 3) = w7 at *
          have Hb7 := Lib.hid (Hb6.out.trans (hb7.mono Hb6.out.size)); have Hownc7 := Lib.hid (own_below Hownc6.out hb7 (Nat.le_refl _)); have Hlay7 := Lib.hid (Hlay6.out.below hb7); have Hr67 := Lib.hid ((own_rd Hown6.out).below hb7 (Nat.le_refl _))
          have hw67 := hb7.size
          have hw7 : w2.heap.size ≤ w7.heap.size := Nat.le_trans hw6 hw67
          rw [← Hys.out] at Hgood
          clear hb7 Hb6 Hownc6 Hlay6 Hown6
          refine (tells_calls g A5 S cap5 _ cuts (k : Int) A6 cap6 w6.heap.size (some ⟨w6.heap.size, 0, none⟩) 5 5 (w6.heap.size + 1) [0, (k : Int) - 1, (k : Int), s, s - 1] w7 Hlay7.out Hgood.out p5 p6 hw67 Hr67.out rfl (by decide) (by decide) (by unfold maxLen; decide) hl7 Hr7.out (by intro q hq; simp at hq; omega)).mono ?_
          rintro e w8 ⟨rfl, hb8⟩
          have Hb8 := Lib.hid (Hb7.out.trans (hb8.mono Hb7.out.size)); have Hownc8 := Lib.hid (own_below Hownc7.out hb8 (Nat.le_refl _))
          have hw8 : w2.heap.size ≤ w8.heap.size := Nat.le_trans hw7 hb8.size
          clear hb8 Hb7 Hownc7 Hlay7 Hr7 Hr67
          by_cases hk0 : k = 0
          · have l3 : ¬ (0 : Int) < (k : Int) := by omega
            clear hk0
            go_wp2_with fail
            exact ⟨⟨a + 1, ys, by congr 1, by omega, Hys.out.symm, Hownc8.out, Hb8.out, hw8⟩, by simp [intOf]; omega⟩
          · have l3 : (0 : Int) < (k : Int) := by omega
            obtain ⟨T, hT, hTe, t1, t2⟩ := rem_k at0 k hbig (by omega)
            obtain ⟨y, hy⟩ : ∃ y, ys[T]? = some y := ⟨ys[T]'(by rw [← Hys.out]; omega), List.getElem?_eq_getElem _⟩
            have hcT := Hownc8.out.cellAt T (by omega)
            rw [List.getElem?_map, List.getElem?_append_left (by rw [← Hys.out]; omega), hy] at hcT
            have hcT : w8.cell? ⟨gc, T, none⟩ = some (.int .i64 y) := hcT
            have hfT := Hownc8.out.frozenAt T
            have hT2 : (T : Int) < (k : Int) + 2 := by omega
            have hTk : T < ys.length := by rw [← Hys.out]; omega
            have HTk := Lib.hid hTk
            have HUb := Lib.hid (Hb8.out.trans ((Upd.setCell (g := gc) w8 T (.int .i64 tz)).below (by omega) Hb8.out.size))
            have hk00 : ¬ (k : Int) = 0 := by omega
            clear hy hTk
            go_wp2_with fail
            refine ⟨⟨a + 1, ys.set T tz, by congr 1, by omega, by rw [List.length_set]; exact Hys.out.symm, ?_, HUb.out, by simp [World.setCell]; exact hw8⟩, by simp [intOf]; omega⟩
            rw [show ys.set T tz ++ [-77, -78] = (ys ++ [-77, -78]).set T tz by rw [List.set_append_left _ _ HTk.out], List.map_set]
            exact (Hownc8.out.stored _ _).1
        · have Hne := Lib.hid hne
          clear hne
          go_wp2_with fail
          refine (Hsame.out w4 Hownc4.out Hown4.out).mono ?_
          rintro e w5 ⟨rfl, k5, rfl⟩
          first | rw [decide_eq_true rfl] | rw [decide_eq_true trivial]
          have Hb5 := Lib.hid (below_drewN Hb4.out k5); have Hownc5 := Lib.hid (own_below Hownc4.out (below_drewN (Below.refl _ _) k5) (Nat.le_refl _)); have Hown5 := Lib.hid (own_below Hown4.out (below_drewN (Below.refl _ _) k5) (Nat.le_refl _))
          have hw5 : w2.heap.size ≤ (w4.drewN k5).heap.size := hw4
          generalize w4.drewN k5 = w5 at *
          clear Hb4 Hownc4 Hown4 Hsame
          go_wp2_with fail
          refine (rBalanced_calls (some ⟨g3, 0, none⟩) k cap3 w5.heap.size ys s w5 Hys.out (by omega) P4.out (Nat.le_refl _) (rd_preI (own_rd Hown5.out))).mono ?_
          rintro e w8 ⟨hb6, (⟨h0, _⟩ | ⟨_, rfl⟩)⟩
          case inl => exact absurd h0 Hne.out
          have Hb8 := Lib.hid (Hb5.out.trans (hb6.mono Hb5.out.size)); have Hownc8 := Lib.hid (own_below Hownc5.out hb6 (Nat.le_refl _))
          have hw8 : w2.heap.size ≤ w8.heap.size := Nat.le_trans hw5 hb6.size
          have hE := balE_cases ys s
          have hne0 : (La.balE ys s == 0) = false := by rw [beq_eq_false_iff_ne]; exact Hne.out
          have hee : (La.balE ys s != La.balE ys s) = false := by simp
          have hE0 : 0 ≤ La.balE ys s ∧ La.balE ys s ≤ 1000 := by omega
          clear hE hb6 Hb5 Hownc5 Hown5
          generalize La.balE ys s = E at *
          go_upto_if 91 with (go_at_call 15; refine (num_calls E _ hE0.1 hE0.2).mono ?_; rintro e w' ⟨rfl, rfl⟩)
          by_cases hk0 : k = 0
          · have l3 : ¬ (0 : Int) < (k : Int) := by omega
            clear hk0
            go_wp2_with fail
            exact ⟨⟨a + 1, ys, by congr 1, by omega, Hys.out.symm, Hownc8.out, Hb8.out, hw8⟩, by simp [intOf]; omega⟩
          · have l3 : (0 : Int) < (k : Int) := by omega
            obtain ⟨T, hT, hTe, t1, t2⟩ := rem_k at0 k hbig (by omega)
            obtain ⟨y, hy⟩ : ∃ y, ys[T]? = some y := ⟨ys[T]'(by rw [← Hys.out]; omega), List.getElem?_eq_getElem _⟩
            have hcT := Hownc8.out.cellAt T (by omega)
            rw [List.getElem?_map, List.getElem?_append_left (by rw [← Hys.out]; omega), hy] at hcT
            have hcT : w8.cell? ⟨gc, T, none⟩ = some (.int .i64 y) := hcT
            have hfT := Hownc8.out.frozenAt T
            have hT2 : (T : Int) < (k : Int) + 2 := by omega
            have hTk : T < ys.length := by rw [← Hys.out]; omega
            have HTk := Lib.hid hTk
            have HUb := Lib.hid (Hb8.out.trans ((Upd.setCell (g := gc) w8 T (.int .i64 tz)).below (by omega) Hb8.out.size))
            have hk00 : ¬ (k : Int) = 0 := by omega
            clear hy hTk
            go_wp2_with fail
            refine ⟨⟨a + 1, ys.set T tz, by congr 1, by omega, by rw [List.length_set]; exact Hys.out.symm, ?_, HUb.out, by simp [World.setCell]; exact hw8⟩, by simp [intOf]; omega⟩
            rw [show ys.set T tz ++ [-77, -78] = (ys ++ [-77, -78]).set T tz by rw [List.set_append_left _ _ HTk.out], List.map_set]
            exact (Hownc8.out.stored _ _).1
      · have l1 : ¬ (a : Int) < 2 := by omega
        go_wp2_with fail
        go_ret
        exact ⟨rfl, Hbl.out⟩
  · have hbi : (65536 : Int) < (k : Int) := by omega
    go_wp2_with fail
    go_ret
    exact ⟨rfl, Hb1.out⟩
end Go.Proofs.Ytlceolhfkioojaa
