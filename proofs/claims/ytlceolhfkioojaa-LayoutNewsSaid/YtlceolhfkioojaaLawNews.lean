/- LayoutNews: the walk -/
import Derived.Test.YtlceolhfkioojaaLaK
namespace Go.Proofs.Ytlceolhfkioojaa
open Go.ChangeShapes Go.WideShapes Go.ChangeAt Go.RowKit
set_option linter.unusedSimpArgs false
set_option linter.unusedVariables false
set_option maxHeartbeats 8000000 in
set_option maxRecDepth 20000 in
theorem law_news (n : Int) (A : Option Addr) (k cap : Nat) (zs : List Int) (A' : Option Addr) (m cap' : Nat) (qs : List Int) (w : World) (hnw : (Lit.int .i64 n).wf = true) (ha : InI w A k cap zs) (ha' : InI w A' m cap' qs) :
    Calls Try.prog 3 #[.int .i64 n, .slice A k cap, .slice A' m cap'] w fun e w' => e = .returned (.bool true) ∧ Below w.heap.size w w' := by
  obtain ⟨hk, hc, hcm, hnil, hr, hz⟩ := ha
  obtain ⟨hm, hc', hcm', hnil', hr', hz'⟩ := ha'
  have Hk := Lib.hid hk; have Hr := Lib.hid hr; have Hcm := Lib.hid hcm; have Hm := Lib.hid hm; have Hr' := Lib.hid hr'; have Hcm' := Lib.hid hcm'; have Hq := Lib.hid (fun q hq => (hz' q hq).2)
  unfold maxLen at hcm hcm'
  clear hk hnil hr hz hm hnil' hr' hz' hnw
  go_enter Try.func3, Try.ntmps3
  go_wp2_with fail
  refine (first_calls w).mono ?_
  rintro e w1 ⟨rfl, hb1⟩
  have hs1 := hb1.size
  have Hb1 := Lib.hid hb1
  clear hb1
  by_cases hbig : k ≤ 65536
  · have hbi : ¬ (65536 : Int) < (k : Int) := by omega
    by_cases hbig2 : m ≤ 65536
    · have hbi2 : ¬ (65536 : Int) < (m : Int) := by omega
      go_wp2_with fail
      refine (more_calls A k cap w.heap.size zs w1 Hk.out (by omega) hs1 (Hr.out.below Hb1.out (Nat.le_refl _))).mono ?_
      rintro e w2 ⟨A2, cap2, rfl, hown2, hb2⟩
      have hs2 := hb2.size
      obtain ⟨p1, p2⟩ := own_cap hown2
      obtain ⟨gc, rfl⟩ := own_some1 hown2 (by omega)
      have hgc1 := (hown2.lt gc rfl).1
      have hgc2 := (hown2.lt gc rfl).2
      have Hb2 := Lib.hid (Hb1.out.trans (hb2.mono hs1)); have Hown2 := Lib.hid hown2
      have P2 := Lib.hid p2
      unfold maxLen at p2
      have q1 : (k : Int) ≤ (k : Int) + 2 := by omega
      have q2 : (k : Int) + 2 ≤ (cap2 : Int) := by omega
      clear hb2 hown2
      go_wp2_with fail
      refine (New_calls n (some ⟨gc, 0, none⟩) k (k + 2) w2.heap.size zs w2 Hk.out (by omega) (by intro h; cases h) (Nat.le_refl _) (rd_preI (own_rd Hown2.out))).mono ?_
      rintro e w3 ⟨hb3, hans⟩
      have Hb3 := Lib.hid (Hb2.out.trans (hb3.mono Hb2.out.size)); have Hown3 := Lib.hid (own_below Hown2.out hb3 (Nat.le_refl _))
      clear hb3 Hown2 Hb2
      rcases hans with ⟨h0, g, A3, cap3, rfl, hlay⟩ | ⟨hne, rfl⟩
      · have H0 := Lib.hid h0; have Hlay := Lib.hid hlay; have Hgood := Lib.hid (La.good_new h0)
        clear h0 hlay
        go_wp2_with fail
        refine (more_calls A k cap w.heap.size zs w3 Hk.out (by omega) Hb3.out.size (Hr.out.below Hb3.out (Nat.le_refl _))).mono ?_
        rintro e w4 ⟨A4, cap4, rfl, hown4, hb4⟩
        obtain ⟨p3, p4⟩ := own_cap hown4
        have Hb4 := Lib.hid (Hb3.out.trans (hb4.mono Hb3.out.size)); have Hown34 := Lib.hid (own_below Hown3.out hb4 (Nat.le_refl _)); have Hown4 := Lib.hid hown4; have Hlay4 := Lib.hid (Hlay.out.below hb4)
        clear hb4 hown4 Hown3 Hb3
        have hlen : k + 2 = (zs ++ [-77, -78]).length := by rw [List.length_append, ← Hk.out]; rfl
        have Hlen := Lib.hid hlen
        clear hlen
        go_wp2_with fail
        refine (sameI_calls (some ⟨gc, 0, none⟩) A4 (k + 2) cap2 (k + 2) cap4 _ _ (zs ++ [-77, -78]) (zs ++ [-77, -78]) w4 Hlen.out Hlen.out p1 p3 P2.out p4 (own_rd Hown34.out) (own_rd Hown4.out)).mono ?_
        rintro e w5 ⟨rfl, k5, rfl⟩
        rw [decide_eq_true rfl]
        have Hb5 := Lib.hid (below_drewN Hb4.out k5); have Hown5 := Lib.hid (own_below Hown34.out (below_drewN (Below.refl _ _) k5) (Nat.le_refl _)); have Hlay5 := Lib.hid (Hlay4.out.below (below_drewN (Below.refl _ _) k5))
        generalize w4.drewN k5 = w5 at *
        clear Hb4 Hown34 Hown4 p3 p4
        go_wp2_with fail
        refine (rNew_calls n A k cap w.heap.size zs w5 Hk.out (by omega) Hb5.out.size (Hr.out.below Hb5.out (Nat.le_refl _))).mono ?_
        rintro e w6 ⟨hb6, A6, k6, cap6, rfl⟩
        have Hb6 := Lib.hid (Hb5.out.trans (hb6.mono Hb5.out.size)); have Hown6 := Lib.hid (own_below Hown5.out hb6 (Nat.le_refl _)); have Hlay6 := Lib.hid (Hlay5.out.below hb6)
        have hgc6 : gc < w6.heap.size := (Hown6.out.lt gc rfl).2
        clear hb6 Hb5 Hown5
        rw [H0.out]
        clear Hlay Hlay4 Hlay5
        go_wp2_with (go_at_call 15; refine (num_calls 0 _ (by omega) (by omega)).mono ?_; rintro e w' ⟨rfl, rfl⟩)
        go_loopw [15] (fun i wr => ∃ (a : Nat) (X : List Int), i = .int .i64 (a : Int) ∧ a ≤ k + 2 ∧ X.length = k + 2 ∧ wr.ownsRow w1.heap.size 3 1 (.slice (some ⟨gc, 0, none⟩) (k + 2) cap2) (k + 2) (X.map VI) ∧ Upd gc w6 wr) (fun i _ => k + 2 - (intOf i).toNat)
        case atStart => exact ⟨0, _, rfl, by omega, Hlen.out.symm, Hown6.out, Upd.refl _ _⟩
        case round =>
          obtain ⟨a, X, rfl, ha, hX, hown, hu⟩ := hrel
          by_cases hlt : a < k + 2
          · have l1 : (a : Int) < (k : Int) + 2 := by omega
            obtain ⟨y, hy⟩ : ∃ y, X[a]? = some y := ⟨X[a]'(by omega), List.getElem?_eq_getElem _⟩
            have hc := hown.cellAt a (by omega)
            rw [List.getElem?_map, hy] at hc
            have hc : wr.cell? ⟨gc, a, none⟩ = some (.int .i64 y) := hc
            have hf := hown.frozenAt a
            have HX := Lib.hid hX; have Hown := Lib.hid hown; have Hu := Lib.hid hu
            clear hX hown hu hy
            go_wp2_with fail
            refine ⟨⟨a + 1, X.set a 5, by congr 1, by omega, by rw [List.length_set]; exact HX.out, ?_, Hu.out.trans (Upd.setCell wr a _)⟩, by simp [intOf]; omega⟩
            rw [List.map_set]
            exact (Hown.out.stored _ _).1
          · have l1 : ¬ (a : Int) < (k : Int) + 2 := by omega
            have Hb7 := Lib.hid (Hb6.out.trans (hu.below (by omega) Hb6.out.size)); have Hlay7 := Lib.hid (Hlay6.out.low hgc2 hu)
            clear hX hown hu
            generalize wr = w7 at *
            clear Hlay6 Hb6 Hown6
            go_wp2_with fail
            go_loopw [16] (fun i wr => ∃ a : Nat, i = .int .i64 (a : Int) ∧ a ≤ 2 ∧ LayIs wr w2.heap.size g A3 k cap3 zs ∧ Below w.heap.size w wr) (fun i _ => 2 - (intOf i).toNat)
            case atStart => exact ⟨0, rfl, by omega, Hlay7.out, Hb7.out⟩
            case round =>
              obtain ⟨a, rfl, ha, hlay, hbl⟩ := hrel
              have Hlayr := Lib.hid hlay; have Hblr := Lib.hid hbl
              clear hlay hbl
              by_cases hlt : a < 2
              · have l1 : (a : Int) < 2 := by omega
                go_wp2_with fail
                refine (tells_calls g A3 k cap3 _ zs n A cap w.heap.size A' m cap' w.heap.size qs wr Hlayr.out Hgood.out hc Hcm.out Hblr.out.size (Hr.out.below Hblr.out (Nat.le_refl _)) Hm.out (by omega) hc' Hcm'.out Hblr.out.size (Hr'.out.below Hblr.out (Nat.le_refl _)) Hq.out).mono ?_
                rintro e w8 ⟨rfl, hb8⟩
                have Hlay8 := Lib.hid (Hlayr.out.below hb8); have Hb8 := Lib.hid (Hblr.out.trans (hb8.mono Hblr.out.size))
                have hs8 := Hb8.out.size
                clear hb8 Hlayr Hblr
                go_wp2_with fail
                refine (Cuts_calls g A3 k cap3 _ zs w8 Hlay8.out (by omega)).mono ?_
                rintro e w9 ⟨A9, cap9, rfl, hown9, hb9⟩
                have Hb9 := Lib.hid hb9
                have hA9 : ∀ x, A9 = some ⟨x, 0, none⟩ → w8.heap.size ≤ x ∧ x < w9.heap.size := fun x hx => hown9.lt x (by rw [hx]; rfl)
                have HA9 := Lib.hid hA9; have Hown9 := Lib.hid hown9
                obtain ⟨p5, p6⟩ := own_cap hown9
                clear hown9 hb9 hA9
                go_wp2_with fail
                refine (Of_calls g A3 k cap3 _ zs n A' m cap' w.heap.size qs w9 (Hlay8.out.below Hb9.out) Hgood.out Hm.out (by omega) (Nat.le_trans hs8 Hb9.out.size) ((Hr'.out.below Hb8.out (Nat.le_refl _)).below Hb9.out hs8)).mono ?_
                rintro e w10 ⟨A10, m10, cap10, rfl, _, hown10, hb10⟩
                have hs9 := Hb9.out.size
                have Hb10 := Lib.hid (Hb9.out.trans (hb10.mono hs9)); have Hown910 := Lib.hid (own_below Hown9.out hb10 (Nat.le_refl _)); have Hown10 := Lib.hid hown10
                have hA10 : ∀ x, A10 = some ⟨x, 0, none⟩ → w9.heap.size ≤ x := fun x hx => (hown10.lt x (by rw [hx]; rfl)).1
                have HA10 := Lib.hid hA10
                obtain ⟨p7, p8⟩ := own_cap hown10
                have HLen10 := Lib.hid (show (La.ofL zs qs).length = m10 by have := own_form hown10; obtain ⟨_, _, _, _, _, h⟩ := this; simpa using h)
                unfold maxLen at p6 p8
                clear hb10 hown10 hA10 Hown9
                generalize La.ofL zs qs = os at *
                go_wp2_with fail
                go_loopw [20] (fun i wr => ∃ (j : Nat) (X : List Int), i = .int .i64 (j : Int) ∧ j ≤ k ∧ X.length = k ∧ wr.ownsRow w8.heap.size 3 1 (.slice A9 k cap9) k (X.map VI) ∧ wr.ownsRow w9.heap.size 3 1 (.slice A10 m10 cap10) m10 (os.map VI) ∧ Below w8.heap.size w8 wr) (fun i _ => k - (intOf i).toNat)
                case atStart => exact ⟨0, zs, rfl, by omega, Hk.out.symm, Hown910.out, Hown10.out, Hb10.out⟩
                case round =>
                  obtain ⟨j, X, rfl, hj, hX, hown, hown2b, hbl⟩ := hrel
                  by_cases hjk : j < k
                  · have l2 : (j : Int) < (k : Int) := by omega
                    obtain ⟨ga, rfl⟩ := own_some1 hown (by omega)
                    obtain ⟨g1, g2⟩ := HA9.out ga rfl
                    obtain ⟨y, hy⟩ : ∃ y, X[j]? = some y := ⟨X[j]'(by omega), List.getElem?_eq_getElem _⟩
                    have hcj := hown.cellAt j (by omega)
                    rw [List.getElem?_map, hy] at hcj
                    have hcj : wr.cell? ⟨ga, j, none⟩ = some (.int .i64 y) := hcj
                    have hfj := hown.frozenAt j
                    have HX := Lib.hid hX; have Hown := Lib.hid hown
                    have U := Lib.hid (Upd.setCell (g := ga) wr j (.int .i64 (-1)))
                    have HB2 := Lib.hid (own_low hown2b g2 U.out); have HBl := Lib.hid (hbl.trans (U.out.below g1 hbl.size))
                    clear hX hown hown2b hbl hy
                    go_wp2_with fail
                    refine ⟨⟨j + 1, X.set j (-1), by congr 1, by omega, by rw [List.length_set]; exact HX.out, ?_, HB2.out, HBl.out⟩, by simp [intOf]; omega⟩
                    rw [List.map_set]
                    exact (Hown.out.stored _ _).1
                  · have l2 : ¬ (j : Int) < (k : Int) := by omega
                    have Hob := Lib.hid hown2b; have Hbl2 := Lib.hid hbl
                    clear hX hown hown2b hbl
                    go_wp2_with fail
                    go_loopw [21] (fun i wr => ∃ (j : Nat) (X : List Int), i = .int .i64 (j : Int) ∧ j ≤ m10 ∧ X.length = m10 ∧ wr.ownsRow w9.heap.size 3 1 (.slice A10 m10 cap10) m10 (X.map VI) ∧ Below w8.heap.size w8 wr) (fun i _ => m10 - (intOf i).toNat)
                    case atStart => exact ⟨0, os, rfl, by omega, HLen10.out, Hob.out, Hbl2.out⟩
                    case round =>
                      obtain ⟨j2, X2, rfl, hj2, hX2, hown2, hbl2⟩ := hrel
                      by_cases hjk2 : j2 < m10
                      · have l3 : (j2 : Int) < (m10 : Int) := by omega
                        obtain ⟨gb, rfl⟩ := own_some1 hown2 (by omega)
                        have g3 := HA10.out gb rfl
                        obtain ⟨y, hy⟩ : ∃ y, X2[j2]? = some y := ⟨X2[j2]'(by omega), List.getElem?_eq_getElem _⟩
                        have hcj := hown2.cellAt j2 (by omega)
                        rw [List.getElem?_map, hy] at hcj
                        have hcj : wr.cell? ⟨gb, j2, none⟩ = some (.int .i64 y) := hcj
                        have hfj := hown2.frozenAt j2
                        have HX := Lib.hid hX2; have Hown := Lib.hid hown2
                        have HBl := Lib.hid (hbl2.trans ((Upd.setCell (g := gb) wr j2 (.int .i64 (-1))).below (Nat.le_trans hs9 g3) hbl2.size))
                        clear hX2 hown2 hbl2 hy
                        go_wp2_with fail
                        refine ⟨⟨j2 + 1, X2.set j2 (-1), by congr 1, by omega, by rw [List.length_set]; exact HX.out, ?_, HBl.out⟩, by simp [intOf]; omega⟩
                        rw [List.map_set]
                        exact (Hown.out.stored _ _).1
                      · have l3 : ¬ (j2 : Int) < (m10 : Int) := by omega
                        have HlayF := Lib.hid (Hlay8.out.below hbl2); have HbF := Lib.hid (Hb8.out.trans (hbl2.mono hs8))
                        clear hX2 hown2 hbl2
                        go_wp2_with fail
                        exact ⟨⟨a + 1, by congr 1, by omega, HlayF.out, HbF.out⟩, by simp [intOf]; omega⟩
              · have l1 : ¬ (a : Int) < 2 := by omega
                go_wp2_with fail
                go_ret
                exact ⟨rfl, Hblr.out⟩
      · have Hne := Lib.hid hne
        clear hne
        go_wp2_with fail
        refine (more_calls A k cap w.heap.size zs w3 Hk.out (by omega) Hb3.out.size (Hr.out.below Hb3.out (Nat.le_refl _))).mono ?_
        rintro e w4 ⟨A4, cap4, rfl, hown4, hb4⟩
        obtain ⟨p3, p4⟩ := own_cap hown4
        have Hb4 := Lib.hid (Hb3.out.trans (hb4.mono Hb3.out.size)); have Hown34 := Lib.hid (own_below Hown3.out hb4 (Nat.le_refl _)); have Hown4 := Lib.hid hown4
        clear hb4 hown4 Hown3 Hb3
        have hlen : k + 2 = (zs ++ [-77, -78]).length := by rw [List.length_append, ← Hk.out]; rfl
        have Hlen := Lib.hid hlen
        clear hlen
        go_wp2_with fail
        refine (sameI_calls (some ⟨gc, 0, none⟩) A4 (k + 2) cap2 (k + 2) cap4 _ _ (zs ++ [-77, -78]) (zs ++ [-77, -78]) w4 Hlen.out Hlen.out p1 p3 P2.out p4 (own_rd Hown34.out) (own_rd Hown4.out)).mono ?_
        rintro e w5 ⟨rfl, k5, rfl⟩
        rw [decide_eq_true rfl]
        have Hb5 := Lib.hid (below_drewN Hb4.out k5); have Hown5 := Lib.hid (own_below Hown34.out (below_drewN (Below.refl _ _) k5) (Nat.le_refl _))
        generalize w4.drewN k5 = w5 at *
        clear Hb4 Hown34 Hown4 p3 p4
        go_wp2_with fail
        refine (rNew_calls n A k cap w.heap.size zs w5 Hk.out (by omega) Hb5.out.size (Hr.out.below Hb5.out (Nat.le_refl _))).mono ?_
        rintro e w6 ⟨hb6, A6, k6, cap6, rfl⟩
        have Hb6 := Lib.hid (Hb5.out.trans (hb6.mono Hb5.out.size)); have Hown6 := Lib.hid (own_below Hown5.out hb6 (Nat.le_refl _))
        have hgc6 : gc < w6.heap.size := (Hown6.out.lt gc rfl).2
        clear hb6 Hb5 Hown5
        have hE := newE_cases n zs
        have hne0 : (La.newE n zs == 0) = false := by rw [beq_eq_false_iff_ne]; exact Hne.out
        have hee : (La.newE n zs != La.newE n zs) = false := by simp
        have hE0 : 0 ≤ La.newE n zs ∧ La.newE n zs ≤ 1000 := by omega
        clear hE
        generalize La.newE n zs = E at *
        go_wp2_with (go_at_call 15; refine (num_calls E _ hE0.1 hE0.2).mono ?_; rintro e w' ⟨rfl, rfl⟩)
        go_loopw [15] (fun i wr => ∃ (a : Nat) (X : List Int), i = .int .i64 (a : Int) ∧ a ≤ k + 2 ∧ X.length = k + 2 ∧ wr.ownsRow w1.heap.size 3 1 (.slice (some ⟨gc, 0, none⟩) (k + 2) cap2) (k + 2) (X.map VI) ∧ Upd gc w6 wr) (fun i _ => k + 2 - (intOf i).toNat)
        case atStart => exact ⟨0, _, rfl, by omega, Hlen.out.symm, Hown6.out, Upd.refl _ _⟩
        case round =>
          obtain ⟨a, X, rfl, ha, hX, hown, hu⟩ := hrel
          by_cases hlt : a < k + 2
          · have l1 : (a : Int) < (k : Int) + 2 := by omega
            obtain ⟨y, hy⟩ : ∃ y, X[a]? = some y := ⟨X[a]'(by omega), List.getElem?_eq_getElem _⟩
            have hc := hown.cellAt a (by omega)
            rw [List.getElem?_map, hy] at hc
            have hc : wr.cell? ⟨gc, a, none⟩ = some (.int .i64 y) := hc
            have hf := hown.frozenAt a
            have HX := Lib.hid hX; have Hown := Lib.hid hown; have Hu := Lib.hid hu
            clear hX hown hu hy
            go_wp2_with fail
            refine ⟨⟨a + 1, X.set a 5, by congr 1, by omega, by rw [List.length_set]; exact HX.out, ?_, Hu.out.trans (Upd.setCell wr a _)⟩, by simp [intOf]; omega⟩
            rw [List.map_set]
            exact (Hown.out.stored _ _).1
          · have l1 : ¬ (a : Int) < (k : Int) + 2 := by omega
            have Hb7 := Lib.hid (Hb6.out.trans (hu.below (by omega) Hb6.out.size))
            clear hX hown hu
            go_wp2_with fail
            go_ret
            exact ⟨rfl, Hb7.out⟩
    · have hbi2 : (65536 : Int) < (m : Int) := by omega
      go_wp2_with fail
      go_ret
      exact ⟨rfl, Hb1.out⟩
  · have hbi : (65536 : Int) < (k : Int) := by omega
    go_wp2_with fail
    go_ret
    exact ⟨rfl, Hb1.out⟩
end Go.Proofs.Ytlceolhfkioojaa
