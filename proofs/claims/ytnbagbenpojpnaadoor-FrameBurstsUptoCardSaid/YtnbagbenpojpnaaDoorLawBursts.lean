/- FrameBursts: the walk -/
import Derived.Test.YtnbagbenpojpnaaDoorFrTurn
import Derived.Test.YtnbagbenpojpnaaDoorLawCuts
import Derived.Deep.CutBlock
namespace Go.Proofs.YtnbagbenpojpnaaDoor
open Go.ChangeShapes Go.WideShapes Go.ChangeAt Go.RowKit
set_option linter.unusedSimpArgs false
set_option linter.unusedVariables false
attribute [local go_sem ↓] loadF storeF
attribute [local go_sem] isLoadOf loadArg isRowAt_ptr rowAt_ptr blkOf_ptr aggOf_agg isAggV_agg isRow_alloc_new pair_cells
theorem rem_turn (a : Int) (L : Nat) (hL : L ≤ 62160) (h0 : L ≠ 0) : ∃ T : Nat, T < 8 * L ∧ (wrap64 (a.tmod (8 * (L : Int)) + 8 * (L : Int))).tmod (8 * (L : Int)) = (T : Int) := by
  have h1 := Int.tmod_lt_of_pos a (show (0 : Int) < 8 * (L : Int) by omega)
  have h2 := Int.lt_tmod_of_pos a (show (0 : Int) < 8 * (L : Int) by omega)
  generalize a.tmod (8 * (L : Int)) = r at *
  have e : wrap64 (r + 8 * (L : Int)) = r + 8 * (L : Int) := by unfold wrap64; omega
  rw [e]
  have h3 := Int.tmod_nonneg (8 * (L : Int)) (show 0 ≤ r + 8 * (L : Int) by omega)
  have h4 := Int.tmod_lt_of_pos (r + 8 * (L : Int)) (show (0 : Int) < 8 * (L : Int) by omega)
  exact ⟨((r + 8 * (L : Int)).tmod (8 * (L : Int))).toNat, by omega, by omega⟩
set_option maxHeartbeats 4000000 in
set_option maxRecDepth 20000 in
theorem law_bursts (A : Option Addr) (n cap : Nat) (fs : FrA) (at0 : Int) (q : BitVec 32) (w : World) (ha : InF w A n cap fs) (hwf : (Lit.int .i64 at0).wf = true) (ht : TabIn w) :
    Calls Tryd.prog 8 #[.slice A n cap, .int .i64 at0, .int .u32 (n32 q)] w fun e w' => e = .returned (.bool true) ∧ Below w.heap.size w w' := by
  obtain ⟨hn, hc, hcm, hnil, hr⟩ := ha
  have Hn := Lib.hid hn; have Hnil := Lib.hid hnil; have Hr := Lib.hid hr; have Ht := Lib.hid ht
  have Hc := Lib.hid hc; have Hcm := Lib.hid hcm
  have hb64 := bounds_i64 hwf
  clear hn hnil hr ht hc hcm hwf
  go_enter Tryd.func8, Tryd.ntmps8
  go_wp2_with fail
  refine (first_calls w Ht.out).mono ?_
  rintro e w1 ⟨rfl, hf1⟩
  have hs1 := hf1.size
  have Hb1 := Lib.hid hf1
  clear hf1
  go_wp2_with fail
  refine (small_calls A n cap w.heap.size fs w1 Hn.out Hc.out Hcm.out (Hr.out.below Hb1.out (Nat.le_refl _))).mono ?_
  rintro e w' ⟨b, rfl, rfl, hfew⟩
  have Hfew := Lib.hid hfew
  clear hfew
  cases b with
  | false =>
    clear Hfew
    go_wp2_with fail
    go_ret
    exact ⟨rfl, Hb1.out⟩
  | true =>
    obtain ⟨f1, f2⟩ := Hfew.out rfl
    have hjl := joinE_len fs
    have hn60 : n ≤ 60 := by rw [Hn.out]; exact f1
    have hjl2 : (joinE fs).length ≤ 62160 := by omega
    obtain ⟨gs, hok, hgs⟩ := joinE_frames fs
    have Hok := Lib.hid hok
    clear Hfew f1 f2 hjl hok
    go_wp2_with fail
    refine (joined_calls A n cap w.heap.size fs w1 Hn.out Hc.out Hcm.out hn60 (Hr.out.below Hb1.out (Nat.le_refl _)) hs1).mono ?_
    rintro e w2 ⟨A2, cap2, rfl, hb2, hown2⟩
    have hs2 := hb2.size
    have Hb2 := Lib.hid (Hb1.out.trans (hb2.mono hs1))
    have Hown2 := Lib.hid hown2
    rw [hgs] at Hown2 hjl2 ⊢
    have Hall := Lib.hid (Fr.rows_all gs Hok.out)
    have Hbur := Lib.hid (fun a c k p => Fr.burst_rows gs a c (q ||| 2147483648#32) k p Hok.out (or31_get q))
    obtain ⟨X, hX⟩ : ∃ X, X = Fr.joinF gs := ⟨_, rfl⟩
    have Hcl := Lib.hid (fun c => Fr.cum_le gs c)
    have Hca := Lib.hid (fun c => Fr.cum_all gs c)
    rw [← hX] at Hown2 hjl2 Hall Hbur Hcl Hca ⊢
    obtain ⟨L, hL⟩ : ∃ L, L = X.length := ⟨_, rfl⟩
    rw [← hL] at Hown2 hjl2 Hall Hbur Hcl Hca ⊢
    have HL := Lib.hid hL
    obtain ⟨q1, q2⟩ := own_cap Hown2.out
    clear hb2 hown2 hX hL hgs
    by_cases hL0 : L = 0
    · have hz : ((L : Int) == 0) = true := by rw [hL0]; rfl
      clear Hbur Hcl Hca Hall
      go_wp2_with fail
      go_ret
      exact ⟨rfl, Hb2.out⟩
    · have hz : ((L : Int) == 0) = false := by rw [beq_eq_false_iff_ne]; omega
      obtain ⟨g, rfl, _⟩ := own_some Hown2.out (by omega)
      go_upto_region 8 with fail
      obtain ⟨T, hT, hTe⟩ := rem_turn at0 L hjl2 hL0
      rw [hTe]
      clear hTe
      generalize wrap64 (at0.tmod (8 * (L : Int)) + 8 * (L : Int)) = junk1
      generalize at0.tmod (8 * (L : Int)) = junk2
      clear hb64
      go_wp2_with fail
      refine (rrow_calls _ L cap2 w2.heap.size X w2 HL.out (by omega) (own_rd Hown2.out) (Nat.le_refl _) q1 q2).mono ?_
      rintro e w5 ⟨hb5, A5, cap5, cells5, rfl, hown5, hsl5⟩
      have hs5 := hb5.size
      have Hb5 := Lib.hid (Hb2.out.trans (hb5.mono (show w.heap.size ≤ w2.heap.size from Hb2.out.size)))
      have Hown25 := Lib.hid (own_below Hown2.out hb5 (Nat.le_refl _))
      rw [← HL.out, Hall.out.1] at hown5 hsl5 ⊢
      rw [Hall.out.2, if_pos rfl]
      have Hrd5 := Lib.hid (FrSl.rd hown5 hsl5)
      obtain ⟨r1, r2⟩ := own_cap2 hown5
      obtain ⟨N, hN⟩ : ∃ N, N = gs.length := ⟨_, rfl⟩
      rw [← hN] at r1 ⊢
      have HN := Lib.hid hN
      clear hown5 hsl5 hb5 hN Hown2 Hall
      unfold maxLen at r2 q2
      go_upto_block 0 with fail
      go_cut [12, 13] (fun s10 s11 w' => ∃ (c : Nat) (k : BitVec 8) (p : List (BitVec 8)), s11 = .int .i64 (c : Int) ∧ s10 = .int .i64 (Fr.cum gs c : Int) ∧ c < N ∧ gs[c]? = some (k, p) ∧ 8 * Fr.cum gs c ≤ T ∧ T < 8 * (Fr.cum gs c + 12 + p.length) ∧ w5 = w')
      case first =>
        go_wp2_with fail
        go_loopw [12, 13] (fun wh ct wr => ∃ c : Nat, ct = .int .i64 (c : Int) ∧ wh = .int .i64 (Fr.cum gs c : Int) ∧ c ≤ N ∧ 8 * Fr.cum gs c ≤ T ∧ w5 = wr) (fun _ ct _ => N - (intOf ct).toNat)
        case atStart => exact ⟨0, rfl, by rw [Fr.cum_zero]; rfl, by omega, by rw [Fr.cum_zero]; omega, rfl⟩
        case round =>
          obtain ⟨c, rfl, rfl, hc1, hc2, rfl⟩ := hrel
          by_cases hlt : c < N
          · obtain ⟨W, hW⟩ : ∃ W, W = Fr.cum gs c := ⟨_, rfl⟩
            rw [← hW] at hc2 ⊢
            have l1 : (c : Int) < (N : Int) := by omega
            obtain ⟨⟨k, p⟩, hp⟩ : ∃ x, gs[c]? = some x := ⟨gs[c]'(by rw [← HN.out]; omega), List.getElem?_eq_getElem _⟩
            have hcs := Fr.cum_succ gs c k p hp
            have hp24 : p.length ≤ 1024 := (Hok.out (k, p) (List.mem_of_getElem? hp)).2
            rw [← hW] at hcs
            obtain ⟨blk, off, C1, cp1, rfl, h1, h2, h3, h4, h5, h6, h7⟩ := Hrd5.out c (n8 k : Int) p (kInt_get hp)
            have Hp := Lib.hid hp; have HW := Lib.hid hW; have Hcs := Lib.hid hcs
            obtain ⟨B, hB⟩ : ∃ B, B = p.length := ⟨_, rfl⟩
            rw [← hB] at h3 h5 Hcs hp24
            have HB := Lib.hid hB
            unfold maxLen at h6
            clear hp hW hcs hB h2 h4 h7
            by_cases hle : 8 * (W + 12 + B) ≤ T
            · have l2 : (W : Int) + 12 + (B : Int) ≤ (T : Int) / 8 := by omega
              have Hq := Lib.hid (show 8 * Fr.cum gs (c + 1) ≤ T by rw [Hcs.out]; exact hle)
              go_wp2_with fail
              refine ⟨⟨c + 1, by congr 1, ?_, by omega, Hq.out, trivial⟩, by simp [intOf]; omega⟩
              rw [Hcs.out]; congr 1
            · have l2 : ¬ (W : Int) + 12 + (B : Int) ≤ (T : Int) / 8 := by omega
              go_wp2_with fail
              go_meet
              refine ⟨c, k, p, rfl, by rw [HW.out], hlt, Hp.out, by rw [← HW.out]; exact hc2, ?_, rfl⟩
              rw [← HW.out, ← HB.out]; omega
          · exfalso
            have := Hca.out c (by rw [← HN.out]; omega)
            omega
      case rest =>
        obtain ⟨c, k, p, rfl, rfl, hc1, hc2, hc3, hc4, rfl⟩ := hcut
        obtain ⟨e1, e2, e3⟩ := Hbur.out T c k p hc2 hc3 hc4
        obtain ⟨W, hW⟩ : ∃ W, W = Fr.cum gs c := ⟨_, rfl⟩
        rw [← hW] at e2 e3 ⊢
        have hcl : (gs.take c).length = c := by rw [List.length_take, ← HN.out]; omega
        have He := Lib.hid e1; have He2 := Lib.hid e2
        have l2 : (c : Int) ≤ (cap5 : Int) := by omega
        have l3 : c ≤ cap5 := by omega
        clear hc3 hc2 hc4 e1 e2 hW Hbur Hcl Hca
        go_wp2_with fail
        refine (turn_calls (some ⟨g, 0, none⟩) L cap2 w5.heap.size T q _ X w5 HL.out (by omega) (by omega) (by intro h; cases h) (Nat.le_refl _) (own_rd Hown25.out) rfl).mono ?_
        rintro e w6 ⟨A6, cap6, rfl, hown6, hb6⟩
        have hs6 := hb6.size
        have Hb6 := Lib.hid (Hb5.out.trans (hb6.mono (show w.heap.size ≤ w5.heap.size from Hb5.out.size)))
        have Hbb6 := Lib.hid hb6
        have Hown6 := Lib.hid hown6
        have HLt := Lib.hid (show L = (Crc.turnF X T (q ||| 2147483648#32) 32).1.length by rw [Crc.turnF_length]; exact HL.out)
        obtain ⟨Y, hY⟩ : ∃ Y, Y = (Crc.turnF X T (q ||| 2147483648#32) 32).1 := ⟨_, rfl⟩
        rw [← hY] at Hown6 HLt He He2
        obtain ⟨c61, c62⟩ := own_cap hown6
        clear hown6 hb6 hY Hown25
        go_wp2_with fail
        refine (row_calls A6 L cap6 w6.heap.size Y w6 HLt.out (by omega) (own_rd Hown6.out) (Nat.le_refl _) c61 c62 (tabIn_of Ht.out Hb6.out)).mono ?_
        rintro e w7 ⟨hb7, A7, cap7, cells7, rfl, hown7, hsl7⟩
        rw [← HLt.out, He.out] at hown7 hsl7
        rw [← HLt.out, He.out, He2.out, if_neg (by omega)]
        rw [hcl] at hown7 ⊢
        have Hrd7 := Lib.hid (FrSl.rd (fs := gs.take c) (cap := cap7) (by rw [hcl]; exact hown7) hsl7)
        have Hrd57 := Lib.hid (((Hrd5.out.below Hbb6.out (Nat.le_refl _)).below hb7 hs6).take c)
        obtain ⟨p1, p2⟩ := own_cap2 hown7
        have hs7 := hb7.size
        have Hb7 := Lib.hid (Hb6.out.trans (hb7.mono (show w.heap.size ≤ w6.heap.size from Hb6.out.size)))
        rw [kInt_take] at Hrd7
        have Hcl := Lib.hid (show c = ((kInt gs).take c).length by rw [← kInt_take]; unfold kInt; rw [List.length_map, hcl])
        clear hown7 hsl7 hb7 hcl Hown6
        go_wp2_with (go_at_call 16; refine (num_calls 32 _ (by omega) (by omega)).mono ?_; rintro e w' ⟨rfl, rfl⟩)
        refine (sames_calls A7 A5 c cap7 cap5 w7.heap.size w5.heap.size ((kInt gs).take c) w7 Hcl.out p1 l3 p2 (by unfold maxLen; omega) Hrd7.out Hrd57.out (Nat.le_refl _) (by omega)).mono ?_
        rintro e w8 ⟨rfl, hb8⟩
        have Hb8 := Lib.hid (Hb7.out.trans (hb8.mono (show w.heap.size ≤ w7.heap.size from Hb7.out.size)))
        clear hb8
        go_wp2_with fail
        go_ret
        exact ⟨rfl, Hb8.out⟩
theorem walk_bursts (A : Option Addr) (n cap : Nat) (fs : FrA) (at0 p : Int) (w : World) (ha : InF w A n cap fs) (hwf : (Lit.int .i64 at0).wf = true) (h2 : (Lit.int .u32 p).wf = true) (ht : TabIn w) :
    Calls Tryd.prog 8 #[.slice A n cap, .int .i64 at0, .int .u32 p] w fun e w' => e = .returned (.bool true) ∧ Below w.heap.size w w' := by
  rw [int32 h2]
  exact law_bursts A n cap fs at0 _ w ha hwf ht
end Go.Proofs.YtnbagbenpojpnaaDoor
