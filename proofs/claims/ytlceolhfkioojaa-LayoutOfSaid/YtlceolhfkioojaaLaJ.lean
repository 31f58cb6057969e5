/- pithlaw10.tells -/
import Derived.Test.YtlceolhfkioojaaLaI
namespace Go.Proofs.Ytlceolhfkioojaa
open Go.RowKit
set_option linter.unusedSimpArgs false
set_option linter.unusedVariables false
theorem s_keep {W w' w'' : World} {B : Nat} {p : Addr} {v : Value} (h : (w'.cell? p = some v ∧ True) ∧ Below B W w') (hp : p.block < B) (hB : B ≤ W.heap.size) (hb : Below w'.heap.size w' w'') : (w''.cell? p = some v ∧ True) ∧ Below B W w'' := by
  have hs := h.2.size
  exact ⟨⟨(hb.cell (Nat.lt_of_lt_of_le hp (Nat.le_trans hB hs))).trans h.1.1, trivial⟩, h.2.trans (hb.mono (Nat.le_trans hB hs))⟩
set_option maxHeartbeats 8000000 in
set_option maxRecDepth 20000 in
theorem tells_calls (g : Nat) (A : Option Addr) (n cap base : Nat) (zs : List Int) (N : Int) (A1 : Option Addr) (cap1 B1 : Nat) (A2 : Option Addr) (k cap2 B2 : Nat) (qs : List Int) (w : World) (h : LayIs w base g A n cap zs) (hg : La.Good N zs)
    (hc1 : n ≤ cap1) (hcm1 : cap1 ≤ maxLen) (hB1 : B1 ≤ w.heap.size) (hr1 : Rd w B1 A1 (zs.map VI)) (hk : k = qs.length) (hkm : k ≤ 1099511627776) (hkc : k ≤ cap2) (hcm2 : cap2 ≤ maxLen) (hB2 : B2 ≤ w.heap.size) (hr2 : Rd w B2 A2 (qs.map VI)) (hq : ∀ q ∈ qs, q ≤ 9223372036854775807) :
    Calls Try.prog 16 #[.pointer (some ⟨g, 0, none⟩), .int .i64 N, .slice A1 n cap1, .slice A2 k cap2] w fun e w' => e = .returned (.bool true) ∧ Below w.heap.size w w' := by
  have hn1 : n ≤ 1000 := by rw [h.2.2.1]; exact hg.2.2.1
  have Hn := Lib.hid h.2.2.1
  have H := Lib.hid h; have Hg := Lib.hid hg; have Hr1 := Lib.hid hr1; have Hk := Lib.hid hk; have Hr2 := Lib.hid hr2; have Hq := Lib.hid hq; have Hc1 := Lib.hid hcm1; have Hc2 := Lib.hid hcm2
  have hlast : La.lastI 0 zs = N := hg.2.1
  have Hlast := Lib.hid hlast
  unfold maxLen at hcm1 hcm2
  clear h hg hr1 hk hr2 hq hlast
  go_enter Try.func16, Try.ntmps16
  go_wp2_with fail
  refine (Cuts_calls g A n cap base zs w H.out (by omega)).mono ?_
  rintro e w1 ⟨A3, cap3, rfl, hown3, hb1⟩
  obtain ⟨p1, p2⟩ := own_cap hown3
  have H1 := Lib.hid (H.out.below hb1); have Hb1 := Lib.hid hb1; have Hown3 := Lib.hid hown3
  clear hown3 hb1 H
  go_wp2_with fail
  refine (sameI_calls A3 A1 n cap3 n cap1 _ _ zs zs w1 Hn.out Hn.out p1 hc1 p2 Hc1.out (own_rd Hown3.out) (Hr1.out.below Hb1.out hB1)).mono ?_
  rintro e w2 ⟨rfl, k2, rfl⟩
  rw [decide_eq_true rfl]
  have H2 := Lib.hid (H1.out.below (below_drewN (Below.refl _ _) k2)); have Hb2 := Lib.hid (below_drewN Hb1.out k2)
  generalize w1.drewN k2 = w2 at *
  have hNN : (N != N) = false := by simp
  have hnn : ((n : Int) != (n : Int)) = false := by simp
  clear H1 Hb1 Hown3 p1 p2
  go_wp2_with fail
  refine (N_calls g A n cap base zs w2 H2.out).mono ?_
  rintro e w3 ⟨rfl, k3, rfl⟩
  rw [Hlast.out]
  have H3 := Lib.hid (H2.out.below (below_drewN (Below.refl _ _) k3)); have Hb3 := Lib.hid (below_drewN Hb2.out k3)
  generalize w2.drewN k3 = w3 at *
  clear H2 Hb2
  go_wp2_with fail
  refine (Shards_calls g A n cap base zs w3 H3.out).mono ?_
  rintro e w' ⟨rfl, rfl⟩
  go_wp2_with fail
  go_loopw [10] (fun i wr => ∃ a : Nat, i = .int .i64 (a : Int) ∧ a ≤ k ∧ LayIs wr base g A n cap zs ∧ Below w.heap.size w wr) (fun i _ => k - (intOf i).toNat)
  case atStart => exact ⟨0, rfl, by omega, H3.out, Hb3.out⟩
  case round =>
    obtain ⟨a, rfl, ha, hlay, hbl⟩ := hrel
    have hsz := hbl.size
    have Hlay := Lib.hid hlay; have Hbl := Lib.hid hbl
    clear hlay hbl
    have hfin : ∀ W : World, LayIs W base g A n cap zs → Below w.heap.size w W → Calls Try.prog 18 #[.pointer (some ⟨g, 0, none⟩), .slice A2 k cap2] W fun e w' => ∃ A4 m cap4, e = .returned (.slice A4 m cap4) ∧ m = (La.ofL zs qs).length ∧ w'.ownsRow W.heap.size 3 1 (.slice A4 m cap4) m ((La.ofL zs qs).map VI) ∧ Below W.heap.size W w' :=
      fun W h1 h2 => Of_calls g A n cap base zs N A2 k cap2 B2 qs W h1 Hg.out Hk.out hkm (Nat.le_trans hB2 h2.size) (Hr2.out.below h2 hB2)
    have Hfin := Lib.hid hfin
    clear hfin
    by_cases hlt : a < k ∧ a < 60
    · obtain ⟨hlt1, hlt2⟩ := hlt
      have l1 : (a : Int) < (k : Int) := by omega
      have l2 : (a : Int) < 60 := by omega
      obtain ⟨v, hv⟩ : ∃ v, qs[a]? = some v := ⟨qs[a]'(by rw [← Hk.out]; omega), List.getElem?_eq_getElem _⟩
      have hvb := Hq.out v (List.mem_of_getElem? hv)
      obtain ⟨b, off, rfl, hbB, hc⟩ := rd_get (Hr2.out.below Hbl.out hB2) hv
      clear hv
      go_wp2_with fail
      refine (Range_calls g A n cap base zs v wr Hlay.out hvb).mono ?_
      rintro e w4 ⟨rfl, k4, rfl⟩
      have H4 := Lib.hid (Hlay.out.below (below_drewN (Below.refl _ _) k4)); have Hb4 := Lib.hid (below_drewN Hbl.out k4)
      have hc4 : (wr.drewN k4).cell? ⟨b, off + a, none⟩ = some (.int .i64 v) := hc
      clear hc Hlay Hbl
      generalize wr.drewN k4 = w4 at *
      go_wp2_with fail
      refine (rRange_calls A1 n cap1 B1 zs v w4 Hn.out hc1 Hc1.out (Hr1.out.below Hb4.out hB1) hvb).mono ?_
      rintro e w5 ⟨rfl, k5, rfl⟩
      have H5 := Lib.hid (H4.out.below (below_drewN (Below.refl _ _) k5)); have Hb5 := Lib.hid (below_drewN Hb4.out k5)
      have hc5 : (w4.drewN k5).cell? ⟨b, off + a, none⟩ = some (.int .i64 v) := hc4
      clear hc4 H4 Hb4
      generalize w4.drewN k5 = w5 at *
      generalize (La.rng zs v).1 = x at *
      generalize (La.rng zs v).2 = y at *
      have hxx : (x != x) = false := by simp
      have hyy : (y != y) = false := by simp
      have hs5 := Hb5.out.size
      have hbl5 : b < w5.heap.size := by omega
      have hss : (La.shardP zs v != La.shardP zs v) = false := by simp
      generalize hS' : La.shardP zs v = s at *
      have HS := Lib.hid hS'
      clear hS'
      go_wp2_with fail
      have hst : (w5.drew.cell? ⟨b, off + a, none⟩ = some (.int .i64 v) ∧ True) ∧ Below w5.heap.size w5 w5.drew := ⟨⟨hc5, trivial⟩, below_drewN (Below.refl _ _) 1⟩
      go_region_held3 (fun w' => (w'.cell? ⟨b, off + a, none⟩ = some (.int .i64 v) ∧ True) ∧ Below w5.heap.size w5 w')
        ((rename (_ ∧ _) ∧ Below _ _ _ => hS; first
          | exact hS
          | exact ⟨⟨hc5, trivial⟩, below_drewN (Below.refl _ _) 1⟩
          | exact s_keep hS hbl5 (Nat.le_refl _) (by assumption)
          | exact s_keep hS hbl5 (Nat.le_refl _) (below_drewN (Below.refl _ _) _)))
        ((first
          | (go_at_call 25; rename (_ ∧ _) ∧ Below _ _ _ => hS; refine (Shard_calls g A n cap base zs v _ (H5.out.below hS.2) Hg.out.1 (by omega)).mono ?_; rintro e w' ⟨rfl, hbS⟩; rw [HS.out])
          | (go_at_call 30; rename (_ ∧ _) ∧ Below _ _ _ => hS; refine (rShard_calls A1 n cap1 B1 zs v _ Hn.out hc1 Hc1.out ((Hr1.out.below Hb5.out hB1).below hS.2 (Nat.le_trans hB1 hs5)) Hg.out.1).mono ?_; rintro e w' ⟨rfl, kS, rfl⟩; rw [HS.out])))
      all_goals (rename (_ ∧ _) ∧ Below _ _ _ => hF)
      all_goals (have H6 := Lib.hid (H5.out.below hF.2); have Hb6 := Lib.hid (Hb5.out.trans (hF.2.mono hs5)))
      all_goals clear hF hst
      all_goals go_wp2_with fail
      all_goals exact ⟨⟨a + 1, by congr 1, by omega, H6.out, Hb6.out⟩, by simp [intOf]; omega⟩
    · rcases (by omega : ¬ (a : Int) < (k : Int) ∨ ((a : Int) < (k : Int) ∧ ¬ (a : Int) < 60)) with l1 | ⟨l1, l2⟩
      all_goals clear hlt
      all_goals go_wp2_with fail
      all_goals refine (Hfin.out wr Hlay.out Hbl.out).mono ?_
      all_goals rintro e w4 ⟨A4, m4, cap4, rfl, hm4, hown4, hb4⟩
      all_goals (obtain ⟨p1, p2⟩ := own_cap hown4)
      all_goals (have Hb4 := Lib.hid (Hbl.out.trans (hb4.mono hsz)); have Hown4 := Lib.hid hown4; have Hm4 := Lib.hid hm4)
      all_goals clear hb4 hown4 hm4 Hlay Hbl Hfin
      all_goals go_wp2_with fail
      all_goals refine (rOf_calls A1 n cap1 B1 zs A2 k cap2 B2 qs w4 Hn.out hc1 Hc1.out hn1 (Hr1.out.below Hb4.out hB1) (Nat.le_trans hB1 Hb4.out.size) Hg.out.1 Hk.out hkm (Hr2.out.below Hb4.out hB2) (Nat.le_trans hB2 Hb4.out.size)).mono ?_
      all_goals rintro e w5 ⟨A5, m5, cap5, rfl, hm5, hown5, hb5⟩
      all_goals (obtain ⟨p3, p4⟩ := own_cap hown5)
      all_goals (have Hb5 := Lib.hid (Hb4.out.trans (hb5.mono Hb4.out.size)); have Hown5 := Lib.hid hown5; have Hm5 := Lib.hid hm5; have Hown45 := Lib.hid (own_below Hown4.out hb5 (Nat.le_refl _)))
      all_goals clear hb5 hown5 hm5 Hb4 Hown4
      all_goals go_wp2_with fail
      all_goals refine (sameI_calls A4 A5 m4 cap4 m5 cap5 _ _ (La.ofL zs qs) (La.ofL zs qs) w5 Hm4.out Hm5.out p1 p3 p2 p4 (own_rd Hown45.out) (own_rd Hown5.out)).mono ?_
      all_goals rintro e w6 ⟨rfl, k6, rfl⟩
      all_goals rw [decide_eq_true rfl]
      all_goals go_wp2_with fail
      all_goals go_ret
      all_goals exact ⟨rfl, below_drewN Hb5.out k6⟩
end Go.Proofs.Ytlceolhfkioojaa
