/- FrameCuts: the walk -/
import Derived.Test.YtnbagbenpojpnaaDoorFrameC
import Derived.Test.YtnbagbenpojpnaaDoorLiftF
import Derived.Deep.CutBlock
namespace Go.Proofs.YtnbagbenpojpnaaDoor
open Go.ChangeShapes Go.WideShapes Go.ChangeAt Go.RowKit
set_option linter.unusedSimpArgs false
set_option linter.unusedVariables false
attribute [local go_sem ↓] loadF storeF
attribute [local go_sem] isLoadOf loadArg isRowAt_ptr rowAt_ptr blkOf_ptr aggOf_agg isAggV_agg isRow_alloc_new pair_cells
theorem rd_take_any {w : World} {B : Nat} {A : Option Addr} {bs : List (BitVec 8)} (h : Rd w B A (bs.map V8)) (n : Nat) : Rd w B A ((bs.take n).map V8) := by
  intro k v hv
  refine h k v ?_
  rw [List.map_take, List.getElem?_take] at hv
  split at hv
  · exact hv
  · cases hv
theorem rem_cut (a : Int) (L : Nat) (hL : L ≤ 62160) : ∃ T : Nat, T ≤ L ∧ (wrap64 (wrap64 (a.tmod ((L : Int) + 1) + (L : Int)) + 1)).tmod ((L : Int) + 1) = (T : Int) := by
  have h1 := Int.tmod_lt_of_pos a (show (0 : Int) < (L : Int) + 1 by omega)
  have h2 := Int.lt_tmod_of_pos a (show (0 : Int) < (L : Int) + 1 by omega)
  generalize a.tmod ((L : Int) + 1) = r at *
  have e : wrap64 (wrap64 (r + (L : Int)) + 1) = r + (L : Int) + 1 := by unfold wrap64; omega
  rw [e]
  have h3 := Int.tmod_nonneg ((L : Int) + 1) (show 0 ≤ r + (L : Int) + 1 by omega)
  have h4 := Int.tmod_lt_of_pos (r + (L : Int) + 1) (show (0 : Int) < (L : Int) + 1 by omega)
  exact ⟨((r + (L : Int) + 1).tmod ((L : Int) + 1)).toNat, by omega, by omega⟩
set_option maxHeartbeats 4000000 in
set_option maxRecDepth 20000 in
theorem law_cuts (A : Option Addr) (n cap : Nat) (fs : FrA) (at0 : Int) (w : World) (ha : InF w A n cap fs) (hwf : (Lit.int .i64 at0).wf = true) (ht : TabIn w) :
    Calls Tryd.prog 9 #[.slice A n cap, .int .i64 at0] w fun e w' => e = .returned (.bool true) ∧ Below w.heap.size w w' := by
  obtain ⟨hn, hc, hcm, hnil, hr⟩ := ha
  have Hn := Lib.hid hn; have Hnil := Lib.hid hnil; have Hr := Lib.hid hr; have Ht := Lib.hid ht
  have Hc := Lib.hid hc; have Hcm := Lib.hid hcm
  have hb64 := bounds_i64 hwf
  clear hn hnil hr ht hc hcm hwf
  go_enter Tryd.func9, Tryd.ntmps9
  go_wp2_with fail
  refine (first_calls w Ht.out).mono ?_
  rintro e w1 ⟨rfl, hf1⟩
  have hs1 := hf1.size
  have Hb1 := Lib.hid hf1
  clear hf1
  go_wp2_with fail
  refine (small_calls A n cap w.heap.size fs w1 Hn.out Hc.out Hcm.out (Hr.out.below Hb1.out (Nat.le_refl _))).mono ?_
  rintro e w' ⟨b, rfl, rfl, hfew⟩
  have Hfew := Lib.hid hfew
  clear hfew
  cases b with
  | false =>
    clear Hfew
    go_wp2_with fail
    go_ret
    exact ⟨rfl, Hb1.out⟩
  | true =>
    obtain ⟨f1, f2⟩ := Hfew.out rfl
    have hjl := joinE_len fs
    have hn60 : n ≤ 60 := by rw [Hn.out]; exact f1
    have hjl2 : (joinE fs).length ≤ 62160 := by omega
    obtain ⟨gs, hok, hgs⟩ := joinE_frames fs
    have Hok := Lib.hid hok
    clear Hfew f1 f2 hjl hok
    go_wp2_with fail
    refine (joined_calls A n cap w.heap.size fs w1 Hn.out Hc.out Hcm.out hn60 (Hr.out.below Hb1.out (Nat.le_refl _)) hs1).mono ?_
    rintro e w2 ⟨A2, cap2, rfl, hb2, hown2⟩
    have hs2 := hb2.size
    have Hb2 := Lib.hid (Hb1.out.trans (hb2.mono hs1))
    have Hown2 := Lib.hid hown2
    rw [hgs] at Hown2 hjl2 ⊢
    have Hall := Lib.hid (Fr.rows_all gs Hok.out)
    have Hcut := Lib.hid (fun a c => Fr.cut_rows gs a c Hok.out)
    obtain ⟨X, hX⟩ : ∃ X, X = Fr.joinF gs := ⟨_, rfl⟩
    have Hcl := Lib.hid (fun c => Fr.cum_le gs c)
    have Hca := Lib.hid (fun c => Fr.cum_all gs c)
    rw [← hX] at Hown2 hjl2 Hall Hcut Hcl Hca ⊢
    obtain ⟨L, hL⟩ : ∃ L, L = X.length := ⟨_, rfl⟩
    rw [← hL] at Hown2 hjl2 Hall Hcut Hcl Hca ⊢
    have HL := Lib.hid hL
    obtain ⟨q1, q2⟩ := own_cap Hown2.out
    clear hb2 hown2 hX hL hgs
    obtain ⟨T, hT, hTe⟩ := rem_cut at0 L hjl2
    have HTe := Lib.hid hTe
    clear hTe
    go_upto_region 6 with fail
    rw [HTe.out]
    generalize wrap64 (wrap64 (at0.tmod ((L : Int) + 1) + (L : Int)) + 1) = junk1
    generalize wrap64 (at0.tmod ((L : Int) + 1) + (L : Int)) = junk2
    generalize at0.tmod ((L : Int) + 1) = junk3
    clear HTe
    go_wp2_with fail
    refine (rrow_calls A2 L cap2 w2.heap.size X w2 HL.out (by omega) (own_rd Hown2.out) (Nat.le_refl _) q1 q2).mono ?_
    rintro e w5 ⟨hb5, A5, cap5, cells5, rfl, hown5, hsl5⟩
    have hs5 := hb5.size
    have Hb5 := Lib.hid (Hb2.out.trans (hb5.mono (show w.heap.size ≤ w2.heap.size from Hb2.out.size)))
    have Hown25 := Lib.hid (own_below Hown2.out hb5 (Nat.le_refl _))
    rw [← HL.out, Hall.out.1] at hown5 hsl5 ⊢
    rw [Hall.out.2, if_pos rfl]
    have Hrd5 := Lib.hid (FrSl.rd hown5 hsl5)
    obtain ⟨r1, r2⟩ := own_cap2 hown5
    obtain ⟨N, hN⟩ : ∃ N, N = gs.length := ⟨_, rfl⟩
    rw [← hN] at r1 ⊢
    have HN := Lib.hid hN
    clear hown5 hsl5 hb5 hN Hown2 Hall
    unfold maxLen at r2 q2
    go_upto_block 0 with fail
    go_cut [10, 11] (fun s10 s11 w' => ∃ c : Nat, s11 = .int .i64 (c : Int) ∧ s10 = .int .i64 (Fr.cum gs c : Int) ∧ c ≤ N ∧ Fr.cum gs c ≤ T ∧ (∀ k p, gs[c]? = some (k, p) → T < Fr.cum gs c + 12 + p.length) ∧ w5 = w')
    case first =>
      go_wp2_with fail
      go_loopw [10, 11] (fun wh ct wr => ∃ c : Nat, ct = .int .i64 (c : Int) ∧ wh = .int .i64 (Fr.cum gs c : Int) ∧ c ≤ N ∧ Fr.cum gs c ≤ T ∧ w5 = wr) (fun _ ct _ => N - (intOf ct).toNat)
      case atStart => exact ⟨0, rfl, by rw [Fr.cum_zero]; rfl, by omega, by rw [Fr.cum_zero]; omega, rfl⟩
      case round =>
        obtain ⟨c, rfl, rfl, hc1, hc2, rfl⟩ := hrel
        obtain ⟨W, hW⟩ : ∃ W, W = Fr.cum gs c := ⟨_, rfl⟩
        rw [← hW] at hc2 ⊢
        by_cases hlt : c < N
        · have l1 : (c : Int) < (N : Int) := by omega
          obtain ⟨⟨k, p⟩, hp⟩ : ∃ x, gs[c]? = some x := ⟨gs[c]'(by rw [← HN.out]; omega), List.getElem?_eq_getElem _⟩
          have hcs := Fr.cum_succ gs c k p hp
          have hp24 : p.length ≤ 1024 := (Hok.out (k, p) (List.mem_of_getElem? hp)).2
          rw [← hW] at hcs
          obtain ⟨blk, off, C1, cp1, rfl, h1, h2, h3, h4, h5, h6, h7⟩ := Hrd5.out c (n8 k : Int) p (kInt_get hp)
          have Hp := Lib.hid hp; have HW := Lib.hid hW; have Hcs := Lib.hid hcs
          obtain ⟨B, hB⟩ : ∃ B, B = p.length := ⟨_, rfl⟩
          rw [← hB] at h3 h5 Hcs hp24
          have HB := Lib.hid hB
          unfold maxLen at h6
          clear hp hW hcs hB h2 h4 h7
          by_cases hle : W + 12 + B ≤ T
          · have l2 : (W : Int) + 12 + (B : Int) ≤ (T : Int) := by omega
            have Hq := Lib.hid (show Fr.cum gs (c + 1) ≤ T by rw [Hcs.out]; exact hle)
            go_wp2_with fail
            refine ⟨⟨c + 1, by congr 1, ?_, by omega, Hq.out, trivial⟩, by simp [intOf]; omega⟩
            rw [Hcs.out]; congr 1
          · have l2 : ¬ (W : Int) + 12 + (B : Int) ≤ (T : Int) := by omega
            go_wp2_with fail
            go_meet
            refine ⟨c, rfl, by rw [HW.out], hc1, by rw [← HW.out]; exact hc2, ?_, rfl⟩
            intro k' p' hk
            rw [Hp.out] at hk; injection hk with hk; injection hk with _ hk; subst hk
            rw [← HW.out, ← HB.out]; omega
        · have HW := Lib.hid hW
          clear hW
          go_wp2_with fail
          go_meet
          refine ⟨c, rfl, by rw [HW.out], hc1, by rw [← HW.out]; exact hc2, ?_, rfl⟩
          intro k' p' hk
          exact absurd (List.getElem?_eq_some_iff.1 hk).1 (by rw [← HN.out]; omega)
    case rest =>
      obtain ⟨c, rfl, rfl, hc1, hc2, hc3, rfl⟩ := hcut
      obtain ⟨e1, e2⟩ := Hcut.out T c hT (by rw [← HN.out]; exact hc1) hc2 hc3
      have hXl : (X.take T).length = T := by rw [List.length_take, ← HL.out]; omega
      rw [hXl] at e1 e2
      have hA : (∃ g, A2 = some ⟨g, 0, none⟩) ∨ (A2 = none ∧ L = 0 ∧ cap2 = 0 ∧ T = 0) := by
        rcases Hown25.out.2 with ⟨h, h0⟩ | ⟨g, _, _, h, _⟩
        · injection h with h1 h2 h3; exact Or.inr ⟨h1, h0, h3, by omega⟩
        · injection h with h1; exact Or.inl ⟨g, h1⟩
      · have Hrx := Lib.hid (rd_take_any (own_rd Hown25.out) T)
        obtain ⟨W, hW⟩ : ∃ W, W = Fr.cum gs c := ⟨_, rfl⟩
        rw [← hW] at hc2 e2 ⊢
        have HX := Lib.hid hXl
        have hcl : (gs.take c).length = c := by rw [List.length_take, ← HN.out]; omega
        have He := Lib.hid e1; have He2 := Lib.hid e2
        have l1 : (T : Int) ≤ (cap2 : Int) := by omega
        have l2 : (c : Int) ≤ (cap5 : Int) := by omega
        clear hc3 hXl e1 e2 hW Hcut Hcl Hca Hown25
        rcases hA with ⟨g, rfl⟩ | ⟨rfl, rfl, rfl, rfl⟩
        all_goals go_wp2_with fail
        all_goals refine (row_calls _ _ _ w5.heap.size _ w5 HX.out.symm (by omega) Hrx.out (Nat.le_refl _) (by omega) (by unfold maxLen; omega) (tabIn_of Ht.out Hb5.out)).mono ?_
        all_goals rintro e w6 ⟨hb6, A6, cap6, cells6, rfl, hown6, hsl6⟩
        all_goals rw [HX.out, He.out] at hown6 hsl6
        all_goals rw [HX.out, He.out, He2.out]
        all_goals rw [hcl] at hown6 ⊢
        all_goals (have Hrd6 := Lib.hid (FrSl.rd (fs := gs.take c) (cap := cap6) (by rw [hcl]; exact hown6) hsl6))
        all_goals (have Hrd56 := Lib.hid ((Hrd5.out.below hb6 (Nat.le_refl _)).take c))
        all_goals (obtain ⟨p1, p2⟩ := own_cap2 hown6)
        all_goals (have hs6 := hb6.size)
        all_goals (have Hb6 := Lib.hid (Hb5.out.trans (hb6.mono (show w.heap.size ≤ w5.heap.size from Hb5.out.size))))
        all_goals rw [kInt_take] at Hrd6
        all_goals (have Hcl := Lib.hid (show c = ((kInt gs).take c).length by rw [← kInt_take]; unfold kInt; rw [List.length_map, hcl]))
        all_goals clear hown6 hsl6 hb6 hcl
        all_goals (have l3 : c ≤ cap5 := by omega)
        · obtain ⟨E, hE⟩ : ∃ E : Int, E = (if W = T then 0 else 32) := ⟨_, rfl⟩
          rw [← hE]
          by_cases hWT : W = T
          · obtain rfl : E = 0 := by rw [hE, if_pos hWT]
            subst hWT
            clear hE
            go_wp2_with fail
            refine (sames_calls A6 A5 c cap6 cap5 w6.heap.size w5.heap.size ((kInt gs).take c) w6 Hcl.out p1 l3 p2 (by unfold maxLen; omega) Hrd6.out Hrd56.out (Nat.le_refl _) hs6).mono ?_
            rintro e w7 ⟨rfl, hb7⟩
            have Hb7 := Lib.hid (Hb6.out.trans (hb7.mono (show w.heap.size ≤ w6.heap.size from Hb6.out.size)))
            clear hb7
            go_wp2_with (go_at_call 16; refine (num_calls 0 _ (by omega) (by omega)).mono ?_; rintro e w' ⟨rfl, rfl⟩)
            go_ret
            exact ⟨by simp, Hb7.out⟩
          · obtain rfl : E = 32 := by rw [hE, if_neg hWT]
            have hne : ((W : Int) == (T : Int)) = false := by rw [beq_eq_false_iff_ne]; omega
            clear hE
            go_wp2_with fail
            refine (sames_calls A6 A5 c cap6 cap5 w6.heap.size w5.heap.size ((kInt gs).take c) w6 Hcl.out p1 l3 p2 (by unfold maxLen; omega) Hrd6.out Hrd56.out (Nat.le_refl _) hs6).mono ?_
            rintro e w7 ⟨rfl, hb7⟩
            have Hb7 := Lib.hid (Hb6.out.trans (hb7.mono (show w.heap.size ≤ w6.heap.size from Hb6.out.size)))
            clear hb7 hWT
            go_wp2_with (go_at_call 16; refine (num_calls 32 _ (by omega) (by omega)).mono ?_; rintro e w' ⟨rfl, rfl⟩)
            go_ret
            exact ⟨by simp, Hb7.out⟩
        · obtain rfl : W = 0 := by omega
          rw [if_pos rfl]
          go_wp2_with fail
          refine (sames_calls A6 A5 c cap6 cap5 w6.heap.size w5.heap.size ((kInt gs).take c) w6 Hcl.out p1 l3 p2 (by unfold maxLen; omega) Hrd6.out Hrd56.out (Nat.le_refl _) hs6).mono ?_
          rintro e w7 ⟨rfl, hb7⟩
          have Hb7 := Lib.hid (Hb6.out.trans (hb7.mono (show w.heap.size ≤ w6.heap.size from Hb6.out.size)))
          clear hb7
          go_wp2_with (go_at_call 16; refine (num_calls 0 _ (by omega) (by omega)).mono ?_; rintro e w' ⟨rfl, rfl⟩)
          go_ret
          exact ⟨by simp, Hb7.out⟩
end Go.Proofs.YtnbagbenpojpnaaDoor
