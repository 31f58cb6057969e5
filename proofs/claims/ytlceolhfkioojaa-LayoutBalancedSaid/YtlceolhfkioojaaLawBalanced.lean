/- LayoutBalanced: the walk -/
import Derived.Test.YtlceolhfkioojaaLaK
namespace Go.Proofs.Ytlceolhfkioojaa
open Go.ChangeShapes Go.WideShapes Go.ChangeAt Go.RowKit
set_option linter.unusedSimpArgs false
set_option linter.unusedVariables false
theorem bal_lo (ds : List Int) (s k a : Nat) (h : a < k) : La.lo (La.balL ds s k) a = (La.balC ds s a : Int) := by
  cases a with
  | zero => rfl
  | succ a => rw [La.lo_succ, La.balL_get ds s k a (by omega)]
set_option maxHeartbeats 8000000 in
set_option maxRecDepth 20000 in
theorem law_balanced (A : Option Addr) (n cap : Nat) (ds : List Int) (s : Int) (w : World) (ha : InI w A n cap ds) (hsw : (Lit.int .i64 s).wf = true) :
    Calls Try.prog 5 #[.slice A n cap, .int .i64 s] w fun e w' => e = .returned (.bool true) ∧ Below w.heap.size w w' := by
  obtain ⟨hn, hc, hcm, hnil, hr, hz⟩ := ha
  have Hn := Lib.hid hn; have Hr := Lib.hid hr; have Hcm := Lib.hid hcm
  unfold maxLen at hcm
  clear hn hnil hr hz hsw
  go_enter Try.func5, Try.ntmps5
  go_wp2_with fail
  refine (first_calls w).mono ?_
  rintro e w1 ⟨rfl, hb1⟩
  have hs1 := hb1.size
  have Hb1 := Lib.hid hb1
  clear hb1
  by_cases h1 : (n : Int) < 1
  · go_wp2_with fail
    go_ret
    exact ⟨rfl, Hb1.out⟩
  by_cases h2 : (65536 : Int) < (n : Int)
  · go_wp2_with fail
    go_ret
    exact ⟨rfl, Hb1.out⟩
  by_cases h3 : s < 1
  · go_wp2_with fail
    go_ret
    exact ⟨rfl, Hb1.out⟩
  by_cases h4 : (n : Int) < s
  · go_wp2_with fail
    go_ret
    exact ⟨rfl, Hb1.out⟩
  by_cases h5 : 1000 < s
  · go_wp2_with fail
    go_ret
    exact ⟨rfl, Hb1.out⟩
  obtain ⟨S, rfl⟩ : ∃ S : Nat, s = (S : Int) := ⟨s.toNat, by omega⟩
  have hS : S ≤ 1000 := by omega
  have hS1 : 1 ≤ S := by omega
  have hSn : S ≤ n := by omega
  go_wp2_with fail
  go_loopw [7, 8] (fun t i wr => ∃ (a : Nat) (T : Int), i = .int .i64 (a : Int) ∧ t = .int .i64 T ∧ a ≤ n ∧ T = La.wt ds a ∧ La.degOk (ds.take a) = true ∧ 0 ≤ T ∧ T ≤ a * 16777217 ∧ w1 = wr) (fun _ i _ => n - (intOf i).toNat)
  case atStart => exact ⟨0, 0, rfl, rfl, by omega, (La.wt_zero ds).symm, by simp [La.degOk], by omega, by omega, rfl⟩
  case round =>
    obtain ⟨a, T, rfl, rfl, ha, hT, hd, hT0, hT1, rfl⟩ := hrel
    have HT := Lib.hid hT; have Hd := Lib.hid hd
    clear hT hd
    by_cases hlt : a < n
    · have l1 : (a : Int) < (n : Int) := by omega
      obtain ⟨d, hdd⟩ : ∃ d, ds[a]? = some d := ⟨ds[a]'(by rw [← Hn.out]; omega), List.getElem?_eq_getElem _⟩
      obtain ⟨b, off, rfl, _, hcz⟩ := rd_get (Hr.out.below Hb1.out (Nat.le_refl _)) hdd
      have Hdd := Lib.hid hdd
      clear hdd
      by_cases h0 : d < 0
      · go_wp2_with fail
        go_ret
        exact ⟨rfl, Hb1.out⟩
      · by_cases h1 : (16777216 : Int) < d
        · go_wp2_with fail
          go_ret
          exact ⟨rfl, Hb1.out⟩
        · have Hs := Lib.hid (La.wt_succ ds a d Hdd.out)
          have Hd2 := Lib.hid (La.degOk_snoc Hdd.out Hd.out (by omega) (by omega))
          go_wp2_with fail
          exact ⟨⟨a + 1, T + d + 1, by congr 1, rfl, by omega, by rw [Hs.out, HT.out]; omega, Hd2.out, by omega, by push_cast; omega, trivial⟩, by simp [intOf]; omega⟩
    · obtain rfl : a = n := by omega
      have hTk : ds.take a = ds := List.take_of_length_le (by rw [← Hn.out]; exact Nat.le_refl _)
      have Hdo := Lib.hid (show La.degOk ds = true by have := Hd.out; rwa [hTk] at this)
      clear hTk Hd hlt ha
      have hm : La.many (ds.length : Int) (S : Int) = true := by
        unfold La.many; rw [if_neg (by rw [← Hn.out]; omega), decide_eq_true (by omega), decide_eq_true (by rw [← Hn.out]; omega), decide_eq_true (by omega)]; rfl
      have H0 := Lib.hid (show La.balE ds (S : Int) = 0 from La.balE_good (by rw [← Hn.out]; omega) Hdo.out hm)
      clear hm
      go_wp2_with fail
      refine (Balanced_calls A a cap w.heap.size ds (S : Int) w1 Hn.out (by omega) Hcm.out hs1 (Hr.out.below Hb1.out (Nat.le_refl _))).mono ?_
      rintro e w2 ⟨hb2, hans⟩
      have Hb2 := Lib.hid (Hb1.out.trans (hb2.mono hs1))
      clear hb2
      rcases hans with ⟨_, g, A2, cap2, rfl, hlay⟩ | ⟨hne, _⟩
      case inr => exact absurd H0.out hne
      have hgood : La.Good ds.length (La.balL ds S S) := by have := La.good_bal H0.out; rwa [Int.toNat_natCast] at this
      rw [Int.toNat_natCast] at hlay
      rw [← Hn.out] at hgood
      have Hlay := Lib.hid hlay; have Hgood := Lib.hid hgood
      have hSS : ((S : Int) != (S : Int)) = false := by simp
      have haa : ((a : Int) != (a : Int)) = false := by simp
      have Hlast := Lib.hid (hgood.2.1)
      clear hlay hgood
      go_wp2_with (first
        | (go_at_call 15; refine (num_calls 0 _ (by omega) (by omega)).mono ?_; rintro e w' ⟨rfl, rfl⟩)
        | (go_at_call 22; refine (Shards_calls g A2 S cap2 _ _ _ Hlay.out).mono ?_; rintro e w' ⟨rfl, rfl⟩))
      refine (N_calls g A2 S cap2 _ _ w2 Hlay.out).mono ?_
      rintro e w3 ⟨rfl, k3, rfl⟩
      rw [Hlast.out]
      have Hlay3 := Lib.hid (Hlay.out.below (below_drewN (Below.refl _ _) k3)); have Hb3 := Lib.hid (below_drewN Hb2.out k3)
      generalize w2.drewN k3 = w3 at *
      have HS := Lib.hid (fun i hi => La.balC_step ds S i (by rw [← Hn.out]; exact hSn) hi)
      have Hsm := Lib.hid (fun (c : Nat) (hc : c ≤ a) => La.wt_small ds Hdo.out (by rw [← Hn.out]; omega) c (by rw [← Hn.out]; exact hc))
      have Hall := Lib.hid (La.balC_all ds S Hdo.out hS1 (by rw [← Hn.out]; exact hSn))
      clear Hlay Hb2 Hlast
      go_wp2_with fail
      go_loopw [11, 12, 13] (fun wt c i wr => ∃ (x : Nat) (W : Int), i = .int .i64 (x : Int) ∧ x ≤ S ∧ c = .int .i64 ((La.balC ds S x : Nat) : Int) ∧ wt = .int .i64 W ∧ W = La.wt ds (La.balC ds S x) ∧ LayIs wr w1.heap.size g A2 S cap2 (La.balL ds S S) ∧ Below w.heap.size w wr) (fun _ _ i _ => S - (intOf i).toNat)
      case atStart => exact ⟨0, 0, rfl, by omega, rfl, rfl, (La.wt_zero ds).symm, Hlay3.out, Hb3.out⟩
      case round =>
        obtain ⟨x, W, rfl, hx, rfl, rfl, hW, hlay, hbl⟩ := hrel
        have Hlayr := Lib.hid hlay; have Hblr := Lib.hid hbl; have HW := Lib.hid hW
        clear hlay hbl hW
        by_cases hlt2 : x < S
        · have l2 : (x : Int) < (S : Int) := by omega
          have hst := HS.out x hlt2
          have hinv := La.balC_inv ds S (by rw [← Hn.out]; exact hSn) x (by omega)
          rw [← Hn.out] at hst hinv
          have Hri := Lib.hid (La.rng_in (La.balL ds S S) x (by rw [La.balL_length]; exact hlt2))
          rw [bal_lo ds S S x hlt2, La.balL_get ds S S x hlt2] at Hri
          have hYb := La.mul_wt x S T hT0 (by have := Hsm.out a (Nat.le_refl _); rw [← HT.out] at this; exact this.2) hlt2 hS
          rw [← HT.out] at hst
          obtain ⟨Y, hY⟩ : ∃ Y, ((x : Int) + 1) * T = Y := ⟨_, rfl⟩
          rw [hY] at hYb hst
          obtain ⟨c0, hc0⟩ : ∃ c, c = La.balC ds S x := ⟨_, rfl⟩
          obtain ⟨c1, hc1⟩ : ∃ c, c = La.balC ds S (x + 1) := ⟨_, rfl⟩
          rw [← hc0, ← hc1] at hst
          rw [← hc0] at hinv HW Hri
          rw [← hc1] at Hri
          rw [← hc0]
          have HC1 := Lib.hid hc1
          clear hc0 hc1
          obtain ⟨i1, i2, i3, i4⟩ := hst
          have Hi3 := Lib.hid i3; have Hi4 := Lib.hid i4
          clear i3 i4
          go_wp2_with fail
          refine (Range_calls g A2 S cap2 _ _ (x : Int) wr Hlayr.out (by omega)).mono ?_
          rintro e w4 ⟨rfl, k4, rfl⟩
          rw [Hri.out]
          have Hlay4 := Lib.hid (Hlayr.out.below (below_drewN (Below.refl _ _) k4)); have Hb4 := Lib.hid (below_drewN Hblr.out k4)
          generalize wr.drewN k4 = w4 at *
          have hcc : ((c0 : Int) != (c0 : Int)) = false := by simp
          have e1 : ¬ (c1 : Int) ≤ (c0 : Int) := by omega
          have e2 : ¬ (a : Int) - ((S : Int) - 1 - (x : Int)) < (c1 : Int) := by omega
          clear Hri Hlayr Hblr
          go_upto_block 4 with fail
          go_cut [11, 12] from 98 to 120 (fun wt c w' => c = .int .i64 ((c1 - 1 : Nat) : Int) ∧ wt = .int .i64 (La.wt ds (c1 - 1)) ∧ w4 = w')
          case first =>
            go_wp2_with fail
            go_loopw [11, 12] (fun wt c wx => ∃ (u : Nat) (V : Int), c = .int .i64 (u : Int) ∧ wt = .int .i64 V ∧ V = La.wt ds u ∧ u ≤ c1 - 1 ∧ w4 = wx) (fun _ c _ => a - (intOf c).toNat)
            case atStart => exact ⟨c0, W, rfl, rfl, HW.out, by omega, rfl⟩
            case round =>
              obtain ⟨u, V, rfl, rfl, hV, hu, rfl⟩ := hrel
              have HV := Lib.hid hV
              have hVb := Hsm.out u (by omega)
              rw [← HV.out] at hVb
              clear hV
              by_cases huc : u < c1 - 1
              · have l3 : (u : Int) < (c1 : Int) - 1 := by omega
                obtain ⟨d, hdd⟩ : ∃ d, ds[u]? = some d := ⟨ds[u]'(by rw [← Hn.out]; omega), List.getElem?_eq_getElem _⟩
                obtain ⟨b, off, rfl, _, hcz⟩ := rd_get (Hr.out.below Hb4.out (Nat.le_refl _)) hdd
                have Hdd := Lib.hid hdd
                have hdb := La.degOk_get Hdo.out hdd
                have Hstep := Lib.hid (La.wt_succ ds u d hdd)
                have hua : (u : Int) < (a : Int) := by omega
                clear hdd
                go_wp2_with fail
                exact ⟨⟨u + 1, V + d + 1, by congr 1, rfl, by rw [Hstep.out, HV.out]; omega, by omega, trivial⟩, by simp [intOf]; omega⟩
              · have l3 : ¬ (u : Int) < (c1 : Int) - 1 := by omega
                obtain rfl : u = c1 - 1 := by omega
                go_wp2_with fail
                go_meet
                exact ⟨rfl, by rw [HV.out], rfl⟩
          case rest =>
            obtain ⟨rfl, rfl, rfl⟩ := hcut
            obtain ⟨u, hu⟩ : ∃ u, u = c1 - 1 := ⟨_, rfl⟩
            rw [← hu]
            rw [← hu] at Hi3
            have huc : u + 1 = c1 := by omega
            have hVb := Hsm.out u (by omega)
            have hVm := La.wt_mul (La.wt ds u) S hVb.1 hVb.2 hS
            obtain ⟨d, hdd⟩ : ∃ d, ds[u]? = some d := ⟨ds[u]'(by rw [← Hn.out]; omega), List.getElem?_eq_getElem _⟩
            obtain ⟨b, off, rfl, _, hcz⟩ := rd_get (Hr.out.below Hb4.out (Nat.le_refl _)) hdd
            have hdb := La.degOk_get Hdo.out hdd
            have hst1 := La.wt_succ ds u d hdd
            rw [huc] at hst1
            have hV1 := Hsm.out c1 (by omega)
            have hVm1 := La.wt_mul (La.wt ds c1) S hV1.1 hV1.2 hS
            have hua : (u : Int) < (a : Int) := by omega
            have hc1i : (u : Int) + 1 = (c1 : Int) := by omega
            have Hst1 := Lib.hid hst1
            generalize La.wt ds u = V at *
            obtain ⟨V1, hV1e⟩ : ∃ V1, V1 = La.wt ds c1 := ⟨_, rfl⟩
            rw [← hV1e] at hV1 hVm1 Hi4 Hst1
            have HV1 := Lib.hid hV1e
            have hsum : V + d + 1 = V1 := by have := Hst1.out; omega
            clear hdd hst1 hu hV1e
            by_cases g1 : 1 < (c1 : Int) - (c0 : Int)
            · have g2 : ¬ Y ≤ V * (S : Int) := by have := Hi3.out (by omega); omega
              by_cases g3 : (c1 : Int) < (a : Int) - ((S : Int) - 1 - (x : Int))
              · have g4 : ¬ V1 * (S : Int) < Y := by have := Hi4.out g3; omega
                go_wp2_with fail
                exact ⟨⟨x + 1, V1, by congr 1, by omega, by rw [HC1.out], rfl, by rw [HV1.out, HC1.out], Hlay4.out, Hb4.out⟩, by simp [intOf]; omega⟩
              · go_wp2_with fail
                exact ⟨⟨x + 1, V1, by congr 1, by omega, by rw [HC1.out], rfl, by rw [HV1.out, HC1.out], Hlay4.out, Hb4.out⟩, by simp [intOf]; omega⟩
            · by_cases g3 : (c1 : Int) < (a : Int) - ((S : Int) - 1 - (x : Int))
              · have g4 : ¬ V1 * (S : Int) < Y := by have := Hi4.out g3; omega
                go_wp2_with fail
                exact ⟨⟨x + 1, V1, by congr 1, by omega, by rw [HC1.out], rfl, by rw [HV1.out, HC1.out], Hlay4.out, Hb4.out⟩, by simp [intOf]; omega⟩
              · go_wp2_with fail
                exact ⟨⟨x + 1, V1, by congr 1, by omega, by rw [HC1.out], rfl, by rw [HV1.out, HC1.out], Hlay4.out, Hb4.out⟩, by simp [intOf]; omega⟩
        · obtain rfl : x = S := by omega
          have hca : ((La.balC ds x x : Nat) : Int) = (a : Int) := by rw [Hall.out, ← Hn.out]
          rw [hca]
          clear hca
          go_wp2_with fail
          go_ret
          exact ⟨by simp, Hblr.out⟩
end Go.Proofs.Ytlceolhfkioojaa
