/- pithref10.Balanced -/
import Derived.Test.YtlceolhfkioojaaLaG
namespace Go.Proofs.Ytlceolhfkioojaa
open Go.RowKit
set_option linter.unusedSimpArgs false
set_option linter.unusedVariables false
set_option maxHeartbeats 8000000 in
set_option maxRecDepth 20000 in
theorem rBalanced_calls (A : Option Addr) (n cap B : Nat) (ds : List Int) (s : Int) (w : World) (hn : n = ds.length) (hc : n ≤ cap) (hcm : cap ≤ maxLen) (hB : B ≤ w.heap.size) (hr : Rd w B A (ds.map VI)) :
    Calls Try.prog 21 #[.slice A n cap, .int .i64 s] w fun e w' => Below w.heap.size w w' ∧
    ((La.balE ds s = 0 ∧ ∃ A' cap', e = .returned (.tuple #[.slice A' s.toNat cap', .int .i64 0]) ∧ w'.ownsRow w.heap.size 3 1 (.slice A' s.toNat cap') s.toNat ((La.balL ds s.toNat s.toNat).map VI)) ∨ (La.balE ds s ≠ 0 ∧ e = .returned (.tuple #[.slice none 0 0, .int .i64 (La.balE ds s)]))) := by
  obtain ⟨i0, hi, hz0, hz1, hz2⟩ := info_parts infoInt
  have Hi := Lib.hid hi; have Hn := Lib.hid hn; have Hr := Lib.hid hr
  unfold maxLen at hcm
  clear hi hn hr
  go_enter Try.func21, Try.ntmps21
  by_cases hbig : (16777216 : Int) < (n : Int)
  · have He := Lib.hid (@La.balE_big ds s (by rw [← Hn.out]; exact hbig))
    go_wp2_with fail
    go_ret2
    exact ⟨Below.refl _ _, Or.inr ⟨by rw [He.out]; decide, by rw [He.out]; rfl⟩⟩
  · have Hbig := Lib.hid (show (ds.length : Int) ≤ 16777216 by rw [← Hn.out]; omega)
    have hn24 : n ≤ 16777216 := by omega
    go_wp2_with fail
    go_loopw [7, 8] (fun t i wr => ∃ (a : Nat) (T : Int), i = .int .i64 (a : Int) ∧ t = .int .i64 T ∧ a ≤ n ∧ T = La.wt ds a ∧ La.degOk (ds.take a) = true ∧ 0 ≤ T ∧ T ≤ a * 16777217 ∧ w = wr) (fun _ i _ => n - (intOf i).toNat)
    case atStart => exact ⟨0, 0, rfl, rfl, by omega, (La.wt_zero ds).symm, by simp [La.degOk], by omega, by omega, rfl⟩
    case round =>
      obtain ⟨a, T, rfl, rfl, ha, hT, hd, hT0, hT1, rfl⟩ := hrel
      have HT := Lib.hid hT; have Hd := Lib.hid hd
      clear hT hd
      by_cases hlt : a < n
      · have l1 : (a : Int) < (n : Int) := by omega
        obtain ⟨d, hdd⟩ : ∃ d, ds[a]? = some d := ⟨ds[a]'(by rw [← Hn.out]; omega), List.getElem?_eq_getElem _⟩
        obtain ⟨b, off, rfl, _, hcz⟩ := rd_get Hr.out hdd
        have Hdd := Lib.hid hdd
        clear hdd
        by_cases h0 : d < 0
        · have He := Lib.hid (@La.balE_deg ds s Hbig.out (La.degOk_stop Hdd.out (Or.inl h0)))
          go_wp2_with fail
          go_ret2
          exact ⟨Below.refl _ _, Or.inr ⟨by rw [He.out]; decide, by rw [He.out]; rfl⟩⟩
        · by_cases h1 : (16777216 : Int) < d
          · have He := Lib.hid (@La.balE_deg ds s Hbig.out (La.degOk_stop Hdd.out (Or.inr h1)))
            go_wp2_with fail
            go_ret2
            exact ⟨Below.refl _ _, Or.inr ⟨by rw [He.out]; decide, by rw [He.out]; rfl⟩⟩
          · have Hs := Lib.hid (La.wt_succ ds a d Hdd.out)
            have Hd2 := Lib.hid (La.degOk_snoc Hdd.out Hd.out (by omega) (by omega))
            go_wp2_with fail
            exact ⟨⟨a + 1, T + d + 1, by congr 1, rfl, by omega, by rw [Hs.out, HT.out]; omega, Hd2.out, by omega, by push_cast; omega, trivial⟩, by simp [intOf]; omega⟩
      · obtain rfl : a = n := by omega
        have hTk : ds.take a = ds := List.take_of_length_le (by rw [← Hn.out]; exact Nat.le_refl _)
        have Hdo := Lib.hid (show La.degOk ds = true by have := Hd.out; rwa [hTk] at this)
        clear hTk Hd
        go_wp2_with fail
        refine (rmany_calls (a : Int) s w).mono ?_
        rintro e w' ⟨rfl, rfl⟩
        cases hm : La.many (a : Int) s with
        | false =>
          have He := Lib.hid (@La.balE_bad ds s Hbig.out Hdo.out (by rw [← Hn.out]; exact hm))
          clear hm
          go_wp2_with fail
          go_ret2
          exact ⟨Below.refl _ _, Or.inr ⟨by rw [He.out]; decide, by rw [He.out]; rfl⟩⟩
        | true =>
          have He := Lib.hid (@La.balE_good ds s Hbig.out Hdo.out (by rw [← Hn.out]; exact hm))
          have hsp := La.many_spec hm
          obtain ⟨S, rfl⟩ : ∃ S : Nat, s = (S : Int) := ⟨s.toNat, by omega⟩
          have hS : S ≤ 1000 := by omega
          have hSn : S ≤ a := by omega
          clear hm hsp
          go_wp2_with fail
          go_loopw [10, 11, 12, 13] (fun l c wt i wr => ∃ (x : Nat) (W : Int), i = .int .i64 (x : Int) ∧ x ≤ S ∧ c = .int .i64 ((La.balC ds S x : Nat) : Int) ∧ wt = .int .i64 W ∧ W = La.wt ds (La.balC ds S x) ∧ wr.ownsRow w.heap.size 3 1 l x ((La.balL ds S x).map VI) ∧ Below w.heap.size w wr) (fun _ _ _ i _ => S - (intOf i).toNat)
          case atStart => exact ⟨0, 0, rfl, by omega, rfl, rfl, (La.wt_zero ds).symm, ⟨rfl, Or.inl ⟨rfl, rfl⟩⟩, Below.refl _ _⟩
          case round =>
            obtain ⟨x, W, rfl, hx, rfl, rfl, hW, hown, hbl⟩ := hrel
            obtain ⟨A1, cap1, rfl, hc1, hm1, _⟩ := own_form hown
            have hsz := hbl.size
            have Hown := Lib.hid hown; have Hbl := Lib.hid hbl; have HW := Lib.hid hW
            clear hown hbl hW
            by_cases hlt2 : x < S
            · have l2 : (x : Int) < (S : Int) := by omega
              have hinv := La.balC_inv ds S (by rw [← Hn.out]; exact hSn) x (by omega)
              rw [← Hn.out] at hinv
              have Hnx := Lib.hid (show La.balC ds S (x + 1) = La.adv (La.wt ds) ((a : Int) - ((S : Int) - 1 - x)) S (((x : Int) + 1) * T) a (La.balC ds S x + 1) by rw [La.balC, La.nx, ← Hn.out, HT.out])
              have Hsm := Lib.hid (fun c hc => La.wt_small ds Hdo.out (by rw [← Hn.out]; exact hn24) c (by rw [← Hn.out]; exact hc))
              obtain ⟨c0, hc0⟩ : ∃ c0, c0 = La.balC ds S x := ⟨_, rfl⟩
              rw [← hc0] at hinv Hnx HW
              rw [← hc0]
              clear hc0
              obtain ⟨Y, hY⟩ : ∃ Y, Y = ((x : Int) + 1) * T := ⟨_, rfl⟩
              have hYb := La.mul_wt x S T hT0 (by have := Hsm.out a (Nat.le_refl _); rw [← HT.out] at this; exact this.2) hlt2 hS
              rw [← hY] at hYb Hnx
              have hY2 := hY.symm
              clear hY
              have hca : c0 < a := by omega
              obtain ⟨d0, hd0⟩ : ∃ d, ds[c0]? = some d := ⟨ds[c0]'(by rw [← Hn.out]; exact hca), List.getElem?_eq_getElem _⟩
              obtain ⟨b, off, rfl, _, hcz⟩ := rd_get (Hr.out.below Hbl.out hB) hd0
              have hdb := La.degOk_get Hdo.out hd0
              have hWb := Hsm.out c0 (by omega)
              rw [← HW.out] at hWb
              have HW1 := Lib.hid (show W + d0 + 1 = La.wt ds (c0 + 1) by rw [La.wt_succ ds c0 d0 hd0, HW.out]; omega)
              have hca' : (c0 : Int) < (a : Int) := by omega
              clear hd0
              go_upto_block 4 with fail
              go_cut [11, 12] (fun c wt w' => c = .int .i64 ((La.balC ds S (x + 1) : Nat) : Int) ∧ wt = .int .i64 (La.wt ds (La.balC ds S (x + 1))) ∧ wr = w')
              case first =>
                go_wp2_with fail
                go_loopw [11, 12] (fun c wt wx => ∃ (u : Nat) (V : Int), c = .int .i64 (u : Int) ∧ wt = .int .i64 V ∧ V = La.wt ds u ∧ u ≤ a ∧ (∃ f : Nat, (a : Int) - ((S : Int) - 1 - x) ≤ (u : Int) + f ∧ La.adv (La.wt ds) ((a : Int) - ((S : Int) - 1 - x)) S Y f u = La.balC ds S (x + 1)) ∧ wr = wx) (fun c _ _ => a - (intOf c).toNat)
                case atStart => exact ⟨c0 + 1, W + d0 + 1, by congr 1, rfl, HW1.out, by omega, ⟨a, by omega, Hnx.out.symm⟩, rfl⟩
                case round =>
                  obtain ⟨u, V, rfl, rfl, hV, hu, ⟨f, hf1, hf2⟩, rfl⟩ := hrel
                  have HV := Lib.hid hV
                  have hVb := Hsm.out u hu
                  rw [← HV.out] at hVb
                  clear hV
                  have hVm := La.wt_mul V S hVb.1 hVb.2 hS
                  have Hstep := Lib.hid (fun d hd => La.wt_succ ds u d hd)
                  by_cases h1 : (u : Int) < (a : Int) - ((S : Int) - 1 - (x : Int))
                  · by_cases h2 : V * (S : Int) < Y
                    · obtain ⟨f', rfl⟩ : ∃ f', f = f' + 1 := ⟨f - 1, by omega⟩
                      have Hf2 := Lib.hid (La.adv_go (La.wt ds) ((a : Int) - ((S : Int) - 1 - x)) S Y f' u ⟨h1, by rw [← HV.out]; exact h2⟩)
                      rw [hf2] at Hf2
                      obtain ⟨d, hdd⟩ : ∃ d, ds[u]? = some d := ⟨ds[u]'(by rw [← Hn.out]; omega), List.getElem?_eq_getElem _⟩
                      obtain ⟨b2, off2, e, _, hcz2⟩ := rd_get (Hr.out.below Hbl.out hB) hdd
                      injection e with e; injection e with e1 e2; subst e1; subst e2
                      have Hdd := Lib.hid hdd
                      have hdb2 := La.degOk_get Hdo.out hdd
                      have hua : (u : Int) < (a : Int) := by omega
                      clear hdd hf2
                      go_wp2_with fail
                      exact ⟨⟨u + 1, V + d + 1, by congr 1, rfl, by rw [Hstep.out d Hdd.out, HV.out]; omega, by omega, ⟨f', by push_cast at hf1 ⊢; omega, Hf2.out.symm⟩, trivial⟩, by simp [intOf]; omega⟩
                    · have Hf2 := Lib.hid (La.adv_stop (La.wt ds) ((a : Int) - ((S : Int) - 1 - x)) S Y f u (fun h => h2 (by rw [HV.out]; exact h.2)))
                      rw [hf2] at Hf2
                      clear hf2
                      go_wp2_with fail
                      go_meet
                      rw [Hf2.out, ← HV.out]
                      exact ⟨rfl, rfl, rfl⟩
                  · have Hf2 := Lib.hid (La.adv_stop (La.wt ds) ((a : Int) - ((S : Int) - 1 - x)) S Y f u (fun h => h1 h.1))
                    rw [hf2] at Hf2
                    clear hf2
                    go_wp2_with fail
                    go_meet
                    rw [Hf2.out, ← HV.out]
                    exact ⟨rfl, rfl, rfl⟩
              case rest =>
                obtain ⟨rfl, rfl, rfl⟩ := hcut
                have Hsu := Lib.hid (La.balL_succ ds S x)
                obtain ⟨q, hq⟩ : ∃ q, q = La.balC ds S (x + 1) := ⟨_, rfl⟩
                rw [← hq] at Hsu ⊢
                have e4 : (La.balL ds S x).map VI ++ [.int .i64 (q : Int)] = (La.balL ds S (x + 1)).map VI := by rw [Hsu.out, List.map_append]; rfl
                have E4 := Lib.hid e4; have Hq := Lib.hid hq
                have HownA := Lib.hid (own_below Hown.out ((Below.refl wr.heap.size wr).alloc (Nat.le_refl _) (.cells #[.int .i64 (q : Int)] 3)) (Nat.le_refl _))
                clear e4 hq
                go_wp2_with (at_builtin; refine wpList_append_rd rfl _ _ 22 rfl w.heap.size 3 i0 _ 8 descInts Hi.out hz0 hz1 hz2 rfl _ x ((La.balL ds S x).map VI) rfl HownA.out _ (some ⟨wr.heap.size, 0, none⟩) 1 1 [.int .i64 (q : Int)] rfl rfl (by intro h; cases h) (rd_fresh _ _ _ _ _ _ rfl rfl) (by intro u hu; simp at hu; subst hu; rfl) (by unfold maxLen; omega) (by omega) (by simp; omega) ?_)
                intro v2 w2 hown2 hg2
                rw [E4.out] at hown2
                have Hown2 := Lib.hid hown2
                have hb2 : Below w.heap.size w w2 := (Hbl.out.alloc hsz (.cells #[.int .i64 (q : Int)] 3)).grown hg2 (by simp; omega) (fun k hk => (HownA.out.lt k hk).1)
                have HB1 := Lib.hid hb2
                clear hb2 hown2 hg2 HownA
                go_wp2_with fail
                exact ⟨⟨x + 1, La.wt ds q, by congr 1, by omega, by rw [Hq.out], rfl, by rw [Hq.out], Hown2.out, HB1.out⟩, by simp [intOf]; omega⟩
            · obtain rfl : x = S := by omega
              go_wp2_with fail
              go_ret2
              exact ⟨Hbl.out, Or.inl ⟨He.out, A1, cap1, by rw [Int.toNat_natCast]; rfl, by rw [Int.toNat_natCast]; exact Hown.out⟩⟩
end Go.Proofs.Ytlceolhfkioojaa
