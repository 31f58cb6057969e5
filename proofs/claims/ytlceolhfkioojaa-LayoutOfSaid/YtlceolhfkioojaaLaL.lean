/- pithlaw10.sound -/
import Derived.Test.YtlceolhfkioojaaLaK
namespace Go.Proofs.Ytlceolhfkioojaa
open Go.RowKit
set_option linter.unusedSimpArgs false
set_option linter.unusedVariables false
theorem La.lo_end : ∀ (zs : List Int), La.lo zs zs.length = La.lastI 0 zs := by
  intro zs
  cases zs with
  | nil => rfl
  | cons c t => rw [List.length_cons, La.lo_succ, La.lastI_get _ _ (by simp)]; rfl
set_option maxHeartbeats 8000000 in
set_option maxRecDepth 20000 in
theorem sound_calls (g : Nat) (A : Option Addr) (n cap base : Nat) (zs : List Int) (N : Int) (A2 : Option Addr) (k cap2 B2 : Nat) (qs : List Int) (w : World) (h : LayIs w base g A n cap zs) (hg : La.Good N zs)
    (hk : k = qs.length) (hkm : k ≤ 9223372036854775807) (hB2 : B2 ≤ w.heap.size) (hr2 : Rd w B2 A2 (qs.map VI)) (hq : ∀ q ∈ qs, q ≤ 9223372036854775807) :
    Calls Try.prog 28 #[.pointer (some ⟨g, 0, none⟩), .slice A2 k cap2] w fun e w' => e = .returned (.bool true) ∧ Below w.heap.size w w' := by
  have hn1 : n ≤ 1000 := by rw [h.2.2.1]; exact hg.2.2.1
  have Hn := Lib.hid h.2.2.1
  have H := Lib.hid h; have Hg := Lib.hid hg; have Hk := Lib.hid hk; have Hr2 := Lib.hid hr2; have Hq := Lib.hid hq
  have hlast : La.lastI 0 zs = N := hg.2.1
  have Hlast := Lib.hid hlast
  have hend : La.lo zs n = N := by rw [h.2.2.1, La.lo_end]; exact hlast
  have Hend := Lib.hid hend
  clear h hg hk hr2 hq hlast hend
  go_enter Try.func28, Try.ntmps28
  go_wp2_with fail
  go_loopw [5, 6] (fun at_ i wr => ∃ a : Nat, i = .int .i64 (a : Int) ∧ at_ = .int .i64 (La.lo zs a) ∧ a ≤ n ∧ LayIs wr base g A n cap zs ∧ Below w.heap.size w wr) (fun _ i _ => n - (intOf i).toNat)
  case atStart => exact ⟨0, rfl, rfl, by omega, H.out, Below.refl _ _⟩
  case round =>
    obtain ⟨a, rfl, rfl, ha, hlay, hbl⟩ := hrel
    have Hlay := Lib.hid hlay; have Hbl := Lib.hid hbl
    clear hlay hbl
    by_cases hlt : a < n
    · have l1 : (a : Int) < (n : Int) := by omega
      have l2 : (a : Int) ≤ 1000 := by omega
      have hlo := La.good_lo Hg.out a (by rw [← Hn.out]; exact hlt)
      have Hri := Lib.hid (La.rng_in zs a (by rw [← Hn.out]; exact hlt))
      have Hls := Lib.hid (La.lo_succ zs a)
      go_wp2_with (go_at_call 22; refine (Shards_calls g A n cap base zs _ Hlay.out).mono ?_; rintro e w' ⟨rfl, rfl⟩)
      refine (Range_calls g A n cap base zs (a : Int) wr Hlay.out (by omega)).mono ?_
      rintro e w4 ⟨rfl, k4, rfl⟩
      rw [Hri.out]
      have H4 := Lib.hid (Hlay.out.below (below_drewN (Below.refl _ _) k4)); have Hb4 := Lib.hid (below_drewN Hbl.out k4)
      generalize wr.drewN k4 = w4 at *
      obtain ⟨h1, h2, h3⟩ := hlo
      generalize La.lo zs a = x at *
      generalize zs.getD a 0 = y at *
      have hxx : (x != x) = false := by simp
      have e1 : ¬ y ≤ x := by omega
      clear Hri Hlay Hbl
      go_wp2_with fail
      exact ⟨⟨a + 1, by congr 1, by rw [Hls.out], by omega, H4.out, Hb4.out⟩, by simp [intOf]; omega⟩
    · obtain rfl : a = n := by omega
      rw [Hend.out]
      have l3 : ¬ (1000 : Int) < (a : Int) := by omega
      have hNN : (N != N) = false := by simp
      clear ha hlt
      go_wp2_with (go_at_call 22; refine (Shards_calls g A a cap base zs _ Hlay.out).mono ?_; rintro e w' ⟨rfl, rfl⟩)
      refine (N_calls g A a cap base zs wr Hlay.out).mono ?_
      rintro e w3 ⟨rfl, k3, rfl⟩
      rw [Hlast.out]
      have H3 := Lib.hid (Hlay.out.below (below_drewN (Below.refl _ _) k3)); have Hb3 := Lib.hid (below_drewN Hbl.out k3)
      generalize wr.drewN k3 = w3 at *
      clear Hlay Hbl
      go_wp2_with (go_at_call 22; refine (Shards_calls g A a cap base zs _ H3.out).mono ?_; rintro e w' ⟨rfl, rfl⟩)
      go_loopw [9] (fun i wr => ∃ b : Nat, i = .int .i64 (b : Int) ∧ b ≤ k ∧ LayIs wr base g A a cap zs ∧ Below w.heap.size w wr) (fun i _ => k - (intOf i).toNat)
      case atStart => exact ⟨0, rfl, by omega, H3.out, Hb3.out⟩
      case round =>
        obtain ⟨c, rfl, hc, hlay, hbl⟩ := hrel
        have Hlay := Lib.hid hlay; have Hbl := Lib.hid hbl
        clear hlay hbl
        by_cases hlt : c < k ∧ c < 60
        · obtain ⟨hlt1, hlt2⟩ := hlt
          have l1 : (c : Int) < (k : Int) := by omega
          have l2 : (c : Int) < 60 := by omega
          obtain ⟨v, hv⟩ : ∃ v, qs[c]? = some v := ⟨qs[c]'(by rw [← Hk.out]; omega), List.getElem?_eq_getElem _⟩
          have hvb := Hq.out v (List.mem_of_getElem? hv)
          obtain ⟨b, off, rfl, hbB, hcc⟩ := rd_get (Hr2.out.below Hbl.out hB2) hv
          have hgood := Hg.out
          clear hv
          go_wp2_with fail
          refine (Shard_calls g A a cap base zs v wr Hlay.out Hg.out.1 (by omega)).mono ?_
          rintro e w5 ⟨rfl, hb5⟩
          have H5 := Lib.hid (Hlay.out.below hb5); have Hb5 := Lib.hid (Hbl.out.trans (hb5.mono Hbl.out.size))
          clear hb5 hcc Hlay Hbl
          by_cases hin : 0 ≤ v ∧ v < N
          · obtain ⟨i1, i2⟩ := hin
            obtain ⟨r, hr, hs⟩ : ∃ r : Nat, r < zs.length ∧ La.shardP zs v = (r : Int) := by
              rcases La.shard_lt zs v hgood.1 with h | h
              · have := (La.shard_neg zs v).1 h; rw [hgood.2.1] at this; omega
              · exact h
            have hsi := (La.shard_iff zs v r hgood.1 hr).1 hs
            have hr1 : (0 : Int) ≤ (r : Int) := by omega
            have hr2 : (r : Int) ≤ 9223372036854775807 := by have := hgood.2.2.1; omega
            have Hri := Lib.hid (La.rng_in zs r hr)
            have Hs := Lib.hid hs
            clear hr hs hgood
            rw [Hs.out]
            generalize La.lo zs r = x at *
            generalize zs.getD r 0 = y at *
            obtain ⟨s1, s2⟩ := hsi
            have f1 : ¬ v < x := by omega
            have f2 : ¬ y ≤ v := by omega
            go_wp2_with fail
            refine (Range_calls g A a cap base zs (r : Int) w5 H5.out hr2).mono ?_
            rintro e w4 ⟨rfl, k4, rfl⟩
            rw [Hri.out]
            have H4 := Lib.hid (H5.out.below (below_drewN (Below.refl _ _) k4)); have Hb4 := Lib.hid (below_drewN Hb5.out k4)
            generalize w5.drewN k4 = w4 at *
            clear Hri H5 Hb5
            go_wp2_with fail
            refine (N_calls g A a cap base zs w4 H4.out).mono ?_
            rintro e w6 ⟨rfl, k6, rfl⟩
            rw [Hlast.out]
            have H6 := Lib.hid (H4.out.below (below_drewN (Below.refl _ _) k6)); have Hb6 := Lib.hid (below_drewN Hb4.out k6)
            generalize w4.drewN k6 = w6 at *
            clear H4 Hb4
            go_wp2_with fail
            exact ⟨⟨c + 1, by congr 1, by omega, H6.out, Hb6.out⟩, by simp [intOf]; omega⟩
          · have hs : La.shardP zs v = -1 := (La.shard_neg zs v).2 (by rw [hgood.2.1]; omega)
            have Hri := Lib.hid (La.rng_out zs (-1) (Or.inl (by omega)))
            have Hs := Lib.hid hs
            clear hs hgood
            rw [Hs.out]
            go_wp2_with fail
            refine (Range_calls g A a cap base zs (-1) w5 H5.out (by omega)).mono ?_
            rintro e w4 ⟨rfl, k4, rfl⟩
            rw [Hri.out]
            have H4 := Lib.hid (H5.out.below (below_drewN (Below.refl _ _) k4)); have Hb4 := Lib.hid (below_drewN Hb5.out k4)
            generalize w5.drewN k4 = w4 at *
            clear Hri H5 Hb5
            by_cases i1 : 0 ≤ v
            · have i2 : ¬ v < N := by omega
              clear hin
              go_wp2_with fail
              refine (N_calls g A a cap base zs w4 H4.out).mono ?_
              rintro e w6 ⟨rfl, k6, rfl⟩
              rw [Hlast.out]
              have H6 := Lib.hid (H4.out.below (below_drewN (Below.refl _ _) k6)); have Hb6 := Lib.hid (below_drewN Hb4.out k6)
              generalize w4.drewN k6 = w6 at *
              clear H4 Hb4
              go_wp2_with fail
              exact ⟨⟨c + 1, by congr 1, by omega, H6.out, Hb6.out⟩, by simp [intOf]; omega⟩
            · clear hin
              go_wp2_with fail
              exact ⟨⟨c + 1, by congr 1, by omega, H4.out, Hb4.out⟩, by simp [intOf]; omega⟩
        · have hcl : ¬ ((c : Int) < (k : Int) ∧ (c : Int) < 60) := by omega
          have H0 := Lib.hid (La.newE_good Hg.out)
          rcases (by omega : ¬ (c : Int) < (k : Int) ∨ ((c : Int) < (k : Int) ∧ ¬ (c : Int) < 60)) with l1 | ⟨l1, l2⟩
          all_goals clear hlt hcl
          all_goals go_wp2_with fail
          all_goals refine (N_calls g A a cap base zs wr Hlay.out).mono ?_
          all_goals rintro e w4 ⟨rfl, k4, rfl⟩
          all_goals rw [Hlast.out]
          all_goals (have H4 := Lib.hid (Hlay.out.below (below_drewN (Below.refl _ _) k4)); have Hb4 := Lib.hid (below_drewN Hbl.out k4))
          all_goals generalize wr.drewN k4 = w4 at *
          all_goals clear Hlay Hbl
          all_goals go_wp2_with fail
          all_goals refine (Cuts_calls g A a cap base zs w4 H4.out (by omega)).mono ?_
          all_goals rintro e w5 ⟨A5, cap5, rfl, hown5, hb5⟩
          all_goals (have H5 := Lib.hid (H4.out.below hb5); have Hb5 := Lib.hid (Hb4.out.trans (hb5.mono Hb4.out.size)); have Hown5 := Lib.hid hown5)
          all_goals clear hb5 hown5 H4 Hb4
          all_goals go_wp2_with fail
          all_goals refine (New_calls N A5 a cap5 w5.heap.size zs w5 Hn.out (by omega) (own_nil Hown5.out) (Nat.le_refl _) (own_rd Hown5.out)).mono ?_
          all_goals rintro e w6 ⟨hb6, hans⟩
          all_goals (have H6 := Lib.hid (H5.out.below hb6); have Hb6 := Lib.hid (Hb5.out.trans (hb6.mono Hb5.out.size)))
          all_goals clear hb6 H5 Hb5 Hown5
          all_goals obtain ⟨g2, A6, cap6, rfl, hlay⟩ : ∃ g2 A6 cap6, e = .returned (.tuple #[.pointer (some ⟨g2, 0, none⟩), .int .i64 0]) ∧ LayIs w6 w5.heap.size g2 A6 a cap6 zs := hans.elim (fun ⟨_, g2, A6, cap6, he, hl⟩ => ⟨g2, A6, cap6, he, hl⟩) (fun ⟨hne, _⟩ => absurd H0.out hne)
          all_goals clear hans
          all_goals have Hlay2 := Lib.hid hlay
          all_goals clear hlay
          all_goals go_wp2_with (go_at_call 15; refine (num_calls 0 _ (by omega) (by omega)).mono ?_; rintro e w' ⟨rfl, rfl⟩)
          all_goals refine (Cuts_calls g2 A6 a cap6 _ zs w6 Hlay2.out (by omega)).mono ?_
          all_goals rintro e w7 ⟨A7, cap7, rfl, hown7, hb7⟩
          all_goals (obtain ⟨p1, p2⟩ := own_cap hown7)
          all_goals (have H7 := Lib.hid (H6.out.below hb7); have Hb7 := Lib.hid (Hb6.out.trans (hb7.mono Hb6.out.size)); have Hown7 := Lib.hid hown7)
          all_goals clear hb7 hown7 H6 Hb6 Hlay2
          all_goals go_wp2_with fail
          all_goals refine (Cuts_calls g A a cap base zs w7 H7.out (by omega)).mono ?_
          all_goals rintro e w8 ⟨A8, cap8, rfl, hown8, hb8⟩
          all_goals (obtain ⟨p3, p4⟩ := own_cap hown8)
          all_goals (have Hb8 := Lib.hid (Hb7.out.trans (hb8.mono Hb7.out.size)); have Hown78 := Lib.hid (own_below Hown7.out hb8 (Nat.le_refl _)); have Hown8 := Lib.hid hown8)
          all_goals clear hb8 hown8 H7 Hb7 Hown7
          all_goals go_wp2_with fail
          all_goals refine (sameI_calls A7 A8 a cap7 a cap8 _ _ zs zs w8 Hn.out Hn.out p1 p3 p2 p4 (own_rd Hown78.out) (own_rd Hown8.out)).mono ?_
          all_goals rintro e w9 ⟨rfl, k9, rfl⟩
          all_goals rw [decide_eq_true rfl]
          all_goals go_wp2_with fail
          all_goals go_ret
          all_goals exact ⟨rfl, below_drewN Hb8.out k9⟩
end Go.Proofs.Ytlceolhfkioojaa
