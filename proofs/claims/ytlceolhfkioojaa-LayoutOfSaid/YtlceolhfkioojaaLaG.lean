/- layout.Balanced, pithref10.Balanced -/
import Derived.Test.YtlceolhfkioojaaLaF
namespace Go.Proofs.Ytlceolhfkioojaa
open Go.RowKit
set_option linter.unusedSimpArgs false
set_option linter.unusedVariables false
namespace La
theorem balE_big {ds : List Int} {s : Int} (h : 16777216 < (ds.length : Int)) : balE ds s = 41 := by unfold balE; rw [if_pos h]
theorem balE_deg {ds : List Int} {s : Int} (h : (ds.length : Int) ≤ 16777216) (hd : degOk ds = false) : balE ds s = 101 := by unfold balE; rw [if_neg (by omega), if_neg (by rw [hd]; decide)]
theorem balE_bad {ds : List Int} {s : Int} (h : (ds.length : Int) ≤ 16777216) (hd : degOk ds = true) (hm : many ds.length s = false) : balE ds s = 100 := by unfold balE; rw [if_neg (by omega), if_pos hd, if_neg (by rw [hm]; decide)]
theorem balE_good {ds : List Int} {s : Int} (h : (ds.length : Int) ≤ 16777216) (hd : degOk ds = true) (hm : many ds.length s = true) : balE ds s = 0 := by unfold balE; rw [if_neg (by omega), if_pos hd, if_pos hm]
theorem degOk_snoc {ds : List Int} {a : Nat} {d : Int} (h : ds[a]? = some d) (h1 : degOk (ds.take a) = true) (h2 : 0 ≤ d) (h3 : d ≤ 16777216) : degOk (ds.take (a + 1)) = true := by
  unfold degOk at h1 ⊢
  rw [List.take_add_one, h, List.all_append, h1]
  simp [h2, h3]
theorem degOk_stop {ds : List Int} {a : Nat} {d : Int} (h : ds[a]? = some d) (h2 : d < 0 ∨ 16777216 < d) : degOk ds = false := by
  cases hr : degOk ds with
  | false => rfl
  | true => have := degOk_get hr h; omega
theorem wt_mul (W : Int) (S : Nat) (h0 : 0 ≤ W) (h1 : W ≤ 281474993487872) (hS : S ≤ 1000) : 0 ≤ W * (S : Int) ∧ W * (S : Int) ≤ 281474993487872000 := by
  have a := Int.mul_nonneg h0 (show (0 : Int) ≤ (S : Int) by omega)
  have b := Int.mul_le_mul h1 (show (S : Int) ≤ 1000 by omega) (by omega) (by omega)
  omega
theorem mul_wt (a S : Nat) (T : Int) (h0 : 0 ≤ T) (h1 : T ≤ 281474993487872) (ha : a < S) (hS : S ≤ 1000) : 0 ≤ ((a : Int) + 1) * T ∧ ((a : Int) + 1) * T ≤ 281474993487872000 := by
  have a1 := Int.mul_nonneg (show (0 : Int) ≤ (a : Int) + 1 by omega) h0
  have b := Int.mul_le_mul (show (a : Int) + 1 ≤ 1000 by omega) h1 h0 (by omega)
  omega
theorem wt_small (ds : List Int) (h : degOk ds = true) (hn : ds.length ≤ 16777216) (c : Nat) (hc : c ≤ ds.length) : 0 ≤ wt ds c ∧ wt ds c ≤ 281474993487872 := by
  have := wt_bound ds h c hc
  omega
theorem adv_stop (W : Nat → Int) (lim s tgt : Int) (f c : Nat) (h : ¬ ((c : Int) < lim ∧ W c * s < tgt)) : adv W lim s tgt f c = c := by
  cases f with
  | zero => rfl
  | succ f => rw [adv, if_neg h]
theorem adv_go (W : Nat → Int) (lim s tgt : Int) (f c : Nat) (h : (c : Int) < lim ∧ W c * s < tgt) : adv W lim s tgt (f + 1) c = adv W lim s tgt f (c + 1) := by rw [adv, if_pos h]
end La
def BalAns (w : World) (ds : List Int) (s : Int) (e : Ending) (w' : World) : Prop := Below w.heap.size w w' ∧
  ((La.balE ds s = 0 ∧ ∃ g A' cap', e = .returned (.tuple #[.pointer (some ⟨g, 0, none⟩), .int .i64 0]) ∧ LayIs w' w.heap.size g A' s.toNat cap' (La.balL ds s.toNat s.toNat)) ∨ (La.balE ds s ≠ 0 ∧ e = .returned (.tuple #[.pointer none, .int .i64 (La.balE ds s)])))
set_option maxHeartbeats 8000000 in
set_option maxRecDepth 20000 in
theorem Balanced_calls (A : Option Addr) (n cap B : Nat) (ds : List Int) (s : Int) (w : World) (hn : n = ds.length) (hc : n ≤ cap) (hcm : cap ≤ maxLen) (hB : B ≤ w.heap.size) (hr : Rd w B A (ds.map VI)) :
    Calls Try.prog 20 #[.slice A n cap, .int .i64 s] w (BalAns w ds s) := by
  obtain ⟨i0, hi, hz0, hz1, hz2⟩ := info_parts infoInt
  have Hi := Lib.hid hi; have Hn := Lib.hid hn; have Hr := Lib.hid hr
  unfold maxLen at hcm
  clear hi hn hr
  go_enter Try.func20, Try.ntmps20
  by_cases hbig : (16777216 : Int) < (n : Int)
  · have He := Lib.hid (@La.balE_big ds s (by rw [← Hn.out]; exact hbig))
    go_wp2_with fail
    go_ret2
    exact ⟨Below.refl _ _, Or.inr ⟨by rw [He.out]; decide, by rw [He.out]; rfl⟩⟩
  · have Hbig := Lib.hid (show (ds.length : Int) ≤ 16777216 by rw [← Hn.out]; omega)
    have hn24 : n ≤ 16777216 := by omega
    go_wp2_with fail
    go_loopw [7, 21] (fun t i wr => ∃ (a : Nat) (T : Int), i = .int .i64 (a : Int) ∧ t = .int .i64 T ∧ a ≤ n ∧ T = La.wt ds a ∧ La.degOk (ds.take a) = true ∧ 0 ≤ T ∧ T ≤ a * 16777217 ∧ w = wr) (fun _ i _ => n - (intOf i).toNat)
    case atStart => exact ⟨0, 0, rfl, rfl, by omega, (La.wt_zero ds).symm, by simp [La.degOk], by omega, by omega, rfl⟩
    case round =>
      obtain ⟨a, T, rfl, rfl, ha, hT, hd, hT0, hT1, rfl⟩ := hrel
      have HT := Lib.hid hT; have Hd := Lib.hid hd
      clear hT hd
      by_cases hlt : a < n
      · have l1 : (a : Int) < (n : Int) := by omega
        obtain ⟨d, hdd⟩ : ∃ d, ds[a]? = some d := ⟨ds[a]'(by rw [← Hn.out]; omega), List.getElem?_eq_getElem _⟩
        obtain ⟨b, off, rfl, _, hcz⟩ := rd_get Hr.out hdd
        have Hdd := Lib.hid hdd
        clear hdd
        by_cases h0 : d < 0
        · have He := Lib.hid (@La.balE_deg ds s Hbig.out (La.degOk_stop Hdd.out (Or.inl h0)))
          go_wp2_with fail
          go_ret2
          exact ⟨Below.refl _ _, Or.inr ⟨by rw [He.out]; decide, by rw [He.out]; rfl⟩⟩
        · by_cases h1 : (16777216 : Int) < d
          · have He := Lib.hid (@La.balE_deg ds s Hbig.out (La.degOk_stop Hdd.out (Or.inr h1)))
            go_wp2_with fail
            go_ret2
            exact ⟨Below.refl _ _, Or.inr ⟨by rw [He.out]; decide, by rw [He.out]; rfl⟩⟩
          · have Hs := Lib.hid (La.wt_succ ds a d Hdd.out)
            have Hd2 := Lib.hid (La.degOk_snoc Hdd.out Hd.out (by omega) (by omega))
            go_wp2_with fail
            exact ⟨⟨a + 1, T + (d + 1), by congr 1, rfl, by omega, by rw [Hs.out, HT.out], Hd2.out, by omega, by push_cast; omega, trivial⟩, by simp [intOf]; omega⟩
      · obtain rfl : a = n := by omega
        have hTk : ds.take a = ds := List.take_of_length_le (by rw [← Hn.out]; exact Nat.le_refl _)
        have Hdo := Lib.hid (show La.degOk ds = true by have := Hd.out; rwa [hTk] at this)
        clear hTk Hd
        go_wp2_with fail
        refine (many_calls (a : Int) s w).mono ?_
        rintro e w' ⟨rfl, rfl⟩
        cases hm : La.many (a : Int) s with
        | false =>
          have He := Lib.hid (@La.balE_bad ds s Hbig.out Hdo.out (by rw [← Hn.out]; exact hm))
          clear hm
          go_wp2_with fail
          go_ret2
          exact ⟨Below.refl _ _, Or.inr ⟨by rw [He.out]; decide, by rw [He.out]; rfl⟩⟩
        | true =>
          have He := Lib.hid (@La.balE_good ds s Hbig.out Hdo.out (by rw [← Hn.out]; exact hm))
          have hsp := La.many_spec hm
          obtain ⟨S, rfl⟩ : ∃ S : Nat, s = (S : Int) := ⟨s.toNat, by omega⟩
          have hS : S ≤ 1000 := by omega
          have hSn : S ≤ a := by omega
          clear hm hsp
          go_upto_block 2 with fail
          obtain ⟨w1, hw1⟩ : ∃ x, x = w.alloc (Obj.cells #[.slice none 0 0] 52) := ⟨_, rfl⟩
          rw [← hw1]
          have hs1 : w.heap.size < w1.heap.size := by rw [hw1]; simp
          have hb1 : Below w.heap.size w w1 := by rw [hw1]; exact (Below.refl _ _).alloc (Nat.le_refl _) _
          have HL := Lib.hid (show LayIs w1 w.heap.size w.heap.size none 0 0 [] from ⟨by rw [hw1]; exact heap_alloc_new _ _, ⟨rfl, Or.inl ⟨rfl, rfl⟩⟩, rfl, Nat.le_refl _⟩)
          have Hb1 := Lib.hid hb1
          clear hw1 hb1
          go_wp2_with fail
          go_loopw [11, 12, 43] (fun c wt i wr => ∃ (x : Nat) (W : Int) (A1 : Option Addr) (cap1 : Nat), i = .int .i64 (x : Int) ∧ x ≤ S ∧ c = .int .i64 ((La.balC ds S x : Nat) : Int) ∧ wt = .int .i64 W ∧ W = La.wt ds (La.balC ds S x) ∧ LayIs wr w.heap.size w.heap.size A1 x cap1 (La.balL ds S x) ∧ Below w.heap.size w wr) (fun _ _ i _ => S - (intOf i).toNat)
          case atStart => exact ⟨0, 0, none, 0, rfl, by omega, rfl, rfl, (La.wt_zero ds).symm, HL.out, Hb1.out⟩
          case round =>
            obtain ⟨x, W, A1, cap1, rfl, hx, rfl, rfl, hW, hlay, hbl⟩ := hrel
            have hsz := hbl.size
            have hgl := lt_heap hlay.1
            have Hlay := Lib.hid hlay; have Hbl := Lib.hid hbl; have HW := Lib.hid hW
            clear hlay hbl hW
            by_cases hlt2 : x < S
            · have l2 : (x : Int) < (S : Int) := by omega
              have hinv := La.balC_inv ds S (by rw [← Hn.out]; exact hSn) x (by omega)
              rw [← Hn.out] at hinv
              have Hnx := Lib.hid (show La.balC ds S (x + 1) = La.adv (La.wt ds) ((a : Int) - ((S : Int) - 1 - x)) S (((x : Int) + 1) * T) a (La.balC ds S x + 1) by rw [La.balC, La.nx, ← Hn.out, HT.out])
              have Hsm := Lib.hid (fun c hc => La.wt_small ds Hdo.out (by rw [← Hn.out]; exact hn24) c (by rw [← Hn.out]; exact hc))
              obtain ⟨c0, hc0⟩ : ∃ c0, c0 = La.balC ds S x := ⟨_, rfl⟩
              rw [← hc0] at hinv Hnx HW
              rw [← hc0]
              clear hc0
              obtain ⟨Y, hY⟩ : ∃ Y, Y = ((x : Int) + 1) * T := ⟨_, rfl⟩
              have hYb := La.mul_wt x S T hT0 (by have := Hsm.out a (Nat.le_refl _); rw [← HT.out] at this; exact this.2) hlt2 hS
              rw [← hY] at hYb Hnx
              have hY2 := hY.symm
              clear hY
              go_upto_block 4 with fail
              go_cut [11, 12] (fun c wt w' => c = .int .i64 ((La.balC ds S (x + 1) : Nat) : Int) ∧ wt = .int .i64 (La.wt ds (La.balC ds S (x + 1))) ∧ wr = w')
              case first =>
                go_wp2_with fail
                go_loopw [11, 12] (fun c wt wx => ∃ (u : Nat) (V : Int), c = .int .i64 (u : Int) ∧ wt = .int .i64 V ∧ V = La.wt ds u ∧ u ≤ a ∧ (u = c0 ∨ (c0 < u ∧ ∃ f : Nat, (a : Int) - ((S : Int) - 1 - x) ≤ (u : Int) + f ∧ La.adv (La.wt ds) ((a : Int) - ((S : Int) - 1 - x)) S Y f u = La.balC ds S (x + 1))) ∧ wr = wx) (fun c _ _ => a - (intOf c).toNat)
                case atStart => exact ⟨c0, W, rfl, rfl, HW.out, by omega, Or.inl rfl, rfl⟩
                case round =>
                  obtain ⟨u, V, rfl, rfl, hV, hu, hst, rfl⟩ := hrel
                  have HV := Lib.hid hV
                  have hVb := Hsm.out u hu
                  rw [← HV.out] at hVb
                  clear hV
                  have hVm := La.wt_mul V S hVb.1 hVb.2 hS
                  have Hstep := Lib.hid (fun d hd => La.wt_succ ds u d hd)
                  have hget : u < a → ∃ d, ds[u]? = some d := fun h => ⟨ds[u]'(by rw [← Hn.out]; exact h), List.getElem?_eq_getElem _⟩
                  rcases hst with rfl | ⟨hcu, f, hf1, hf2⟩
                  · obtain ⟨d, hdd⟩ := hget (by omega)
                    obtain ⟨b, off, rfl, _, hcz⟩ := rd_get (Hr.out.below Hbl.out hB) hdd
                    have Hdd := Lib.hid hdd
                    have hdb := La.degOk_get Hdo.out hdd
                    have huu : ((u : Int) == (u : Int)) = true := by simp
                    have hua : (u : Int) < (a : Int) := by omega
                    clear hdd hget
                    go_wp2_with fail
                    exact ⟨⟨u + 1, V + (d + 1), by congr 1, rfl, by rw [Hstep.out d Hdd.out, HV.out], by omega, Or.inr ⟨by omega, a, by omega, Hnx.out.symm⟩, trivial⟩, by simp [intOf]; omega⟩
                  · have huc : ((u : Int) == (c0 : Int)) = false := by rw [beq_eq_false_iff_ne]; omega
                    by_cases h1 : (u : Int) < (a : Int) - ((S : Int) - 1 - (x : Int))
                    · by_cases h2 : V * (S : Int) < Y
                      · obtain ⟨f', rfl⟩ : ∃ f', f = f' + 1 := ⟨f - 1, by omega⟩
                        have Hf2 := Lib.hid (La.adv_go (La.wt ds) ((a : Int) - ((S : Int) - 1 - x)) S Y f' u ⟨h1, by rw [← HV.out]; exact h2⟩)
                        rw [hf2] at Hf2
                        obtain ⟨d, hdd⟩ := hget (by omega)
                        obtain ⟨b, off, rfl, _, hcz⟩ := rd_get (Hr.out.below Hbl.out hB) hdd
                        have Hdd := Lib.hid hdd
                        have hdb := La.degOk_get Hdo.out hdd
                        have hua : (u : Int) < (a : Int) := by omega
                        clear hdd hget hf2
                        go_wp2_with fail
                        exact ⟨⟨u + 1, V + (d + 1), by congr 1, rfl, by rw [Hstep.out d Hdd.out, HV.out], by omega, Or.inr ⟨by omega, f', by push_cast at hf1 ⊢; omega, Hf2.out.symm⟩, trivial⟩, by simp [intOf]; omega⟩
                      · have Hf2 := Lib.hid (La.adv_stop (La.wt ds) ((a : Int) - ((S : Int) - 1 - x)) S Y f u (fun h => h2 (by rw [HV.out]; exact h.2)))
                        rw [hf2] at Hf2
                        clear hf2 hget
                        go_wp2_with fail
                        go_meet
                        rw [Hf2.out, ← HV.out]
                        exact ⟨rfl, rfl, rfl⟩
                    · have Hf2 := Lib.hid (La.adv_stop (La.wt ds) ((a : Int) - ((S : Int) - 1 - x)) S Y f u (fun h => h1 h.1))
                      rw [hf2] at Hf2
                      clear hf2 hget
                      go_wp2_with fail
                      go_meet
                      rw [Hf2.out, ← HV.out]
                      exact ⟨rfl, rfl, rfl⟩
              case rest =>
                obtain ⟨rfl, rfl, rfl⟩ := hcut
                have Hsu := Lib.hid (La.balL_succ ds S x)
                obtain ⟨q, hq⟩ : ∃ q, q = La.balC ds S (x + 1) := ⟨_, rfl⟩
                rw [← hq] at Hsu ⊢
                have e4 : (La.balL ds S x).map VI ++ [.int .i64 (q : Int)] = (La.balL ds S (x + 1)).map VI := by rw [Hsu.out, List.map_append]; rfl
                have E4 := Lib.hid e4; have Hq := Lib.hid hq
                have c0' := Hlay.out.cell
                have HlayA := Lib.hid (Hlay.out.below ((Below.refl wr.heap.size wr).alloc (Nat.le_refl _) (.cells #[.int .i64 (q : Int)] 3)))
                clear e4 hq
                go_wp2_with (at_builtin; refine wpList_append_rd rfl _ _ 22 rfl w.heap.size 3 i0 _ 8 descInts Hi.out hz0 hz1 hz2 rfl _ x ((La.balL ds S x).map VI) rfl HlayA.out.2.1 _ (some ⟨wr.heap.size, 0, none⟩) 1 1 [.int .i64 (q : Int)] rfl rfl (by intro h; cases h) (rd_fresh _ _ _ _ _ _ rfl rfl) (by intro u hu; simp at hu; subst hu; rfl) (by unfold maxLen; omega) (by omega) (by simp; omega) ?_)
                intro v2 w2 hown2 hg2
                rw [E4.out] at hown2
                obtain ⟨A2, cap2, rfl, _, _, _⟩ := own_form hown2
                have HH2 := Lib.hid (lay_grown HlayA.out hg2)
                have hc2 := lay_c HH2.out
                have hf2 := lay_f HH2.out
                have hst := lay_store HH2.out hown2 (by rw [La.balL_length]) (Nat.le_refl _)
                have hb2 : Below w.heap.size w w2 := (Hbl.out.alloc hsz (.cells #[.int .i64 (q : Int)] 3)).grown hg2 (by simp; omega) (fun k hk => (HlayA.out.2.1.lt k hk).1)
                have HL1 := Lib.hid hst.1; have HB1 := Lib.hid (hb2.trans hst.2)
                clear hst hb2 hown2 hg2 HH2 HlayA c0'
                go_wp2_with fail
                exact ⟨⟨x + 1, La.wt ds q, A2, cap2, by congr 1, by omega, by rw [Hq.out], rfl, by rw [Hq.out], HL1.out, HB1.out⟩, by simp [intOf]; omega⟩
            · obtain rfl : x = S := by omega
              go_wp2_with fail
              go_ret2
              exact ⟨Hbl.out, Or.inl ⟨He.out, w.heap.size, A1, cap1, rfl, by rw [Int.toNat_natCast]; exact Hlay.out⟩⟩
end Go.Proofs.Ytlceolhfkioojaa
