/- pithlaw10.num, first, more -/
import Derived.Test.YtlceolhfkioojaaLaH
namespace Go.Proofs.Ytlceolhfkioojaa
open Go.RowKit
set_option linter.unusedSimpArgs false
set_option linter.unusedVariables false
theorem num_calls (x : Int) (w : World) (h0 : 0 ≤ x) (h1 : x ≤ 1000) : Calls Try.prog 15 #[.int .i64 x] w fun e w' => e = .returned (.int .i64 x) ∧ w = w' := by
  go_enter Try.func15, Try.ntmps15
  go_wp2_with fail
  go_ret
  exact ⟨rfl, rfl⟩
set_option maxHeartbeats 1000000 in
theorem more_calls (A : Option Addr) (n cap B : Nat) (zs : List Int) (w : World) (hn : n = zs.length) (hm : n ≤ 1099511627776) (hB : B ≤ w.heap.size) (hr : Rd w B A (zs.map VI)) :
    Calls Try.prog 11 #[.slice A n cap] w fun e w' => ∃ A' cap', e = .returned (.slice A' (n + 2) cap') ∧ w'.ownsRow w.heap.size 3 1 (.slice A' (n + 2) cap') (n + 2) ((zs ++ [-77, -78]).map VI) ∧ Below w.heap.size w w' := by
  obtain ⟨i0, hi, hz0, hz1, hz2⟩ := info_parts infoInt
  have Hi := Lib.hid hi; have Hn := Lib.hid hn; have Hr := Lib.hid hr
  clear hi hn hr
  go_enter Try.func11, Try.ntmps11
  go_wp2_with fail
  refine (ints_calls A n cap B zs w Hn.out hm hB Hr.out).mono ?_
  rintro e w1 ⟨A1, cap1, rfl, hown1, hb1⟩
  have hs1 := hb1.size
  have Hown1 := Lib.hid (own_below hown1 ((Below.refl w1.heap.size w1).alloc (Nat.le_refl _) (.cells #[.int .i64 (-77), .int .i64 (-78)] 3)) (Nat.le_refl _))
  have Hb1 := Lib.hid hb1
  clear hown1 hb1
  go_wp2_with (at_builtin; refine wpList_append_rd rfl _ _ 22 rfl w.heap.size 3 i0 _ 8 descInts Hi.out hz0 hz1 hz2 rfl _ n (zs.map VI) rfl Hown1.out _ (some ⟨w1.heap.size, 0, none⟩) 2 2 [.int .i64 (-77), .int .i64 (-78)] rfl rfl (by intro h; cases h) (rd_fresh _ _ _ _ _ _ rfl rfl) (by intro u hu; simp at hu; rcases hu with rfl | rfl <;> rfl) (by unfold maxLen; omega) (by omega) (by simp; omega) ?_)
  intro v2 w2 hown2 hg2
  rw [show zs.map VI ++ [.int .i64 (-77), .int .i64 (-78)] = (zs ++ [-77, -78]).map VI by rw [List.map_append]; rfl] at hown2
  obtain ⟨A2, cap2, rfl, _, _, _⟩ := own_form hown2
  have hb2 : Below w.heap.size w w2 := (Hb1.out.alloc hs1 _).grown hg2 (by simp; omega) fun k hk => (Hown1.out.lt k hk).1
  have Hown2 := Lib.hid hown2; have Hb2 := Lib.hid hb2
  clear hown2 hg2 hb2 Hown1
  go_wp2_with fail
  go_ret
  exact ⟨A2, cap2, rfl, Hown2.out, Hb2.out⟩
namespace La
theorem first_new : newE 6 [2, 3, 6] = 0 := by decide
theorem first_bad : newE 3 [3, 3] = 100 := by decide
theorem first_rng : rng [2, 3, 6] 1 = (2, 3) := by decide
theorem first_of : ofL [2, 3, 6] [5, 0, 5, 9, 1] = [0, 2] := by decide
theorem first_balE : balE [0, 0, 0, 0, 0, 9] 3 = 0 := by decide
theorem first_balL : balL [0, 0, 0, 0, 0, 9] 3 3 = [4, 5, 6] := by decide
theorem first_s5 : shardP [2, 3, 6] 5 = 2 := by decide
theorem first_s6 : shardP [2, 3, 6] 6 = -1 := by decide
theorem first_last : lastI 0 [2, 3, 6] = 6 := by decide
end La
theorem lit_below (w : World) (cs : Array Value) (t : TypeId) : Below w.heap.size w (w.alloc (.cells cs t)) := (Below.refl _ _).alloc (Nat.le_refl _) _
set_option maxHeartbeats 8000000 in
set_option maxRecDepth 20000 in
theorem first_calls (w : World) : Calls Try.prog 10 #[] w fun e w' => e = .returned (.bool true) ∧ Below w.heap.size w w' := by
  go_enter Try.func10, Try.ntmps10
  go_wp2_with fail
  have hb1 := lit_below w #[.int .i64 2, .int .i64 3, .int .i64 6] 3
  have hw1 : w.heap.size + 1 ≤ (w.alloc (.cells #[.int .i64 2, .int .i64 3, .int .i64 6] 3)).heap.size := by simp
  have Hr1 := Lib.hid (rd_fresh w _ #[.int .i64 2, .int .i64 3, .int .i64 6] 3 (0, 0) ([2, 3, 6].map VI) rfl rfl)
  generalize w.alloc (.cells #[.int .i64 2, .int .i64 3, .int .i64 6] 3) = w1 at *
  have Hb1 := Lib.hid hb1
  have hs1 := hb1.size
  clear hb1
  refine (New_calls 6 (some ⟨w.heap.size, 0, none⟩) 3 3 (w.heap.size + 1) [2, 3, 6] w1 rfl (by decide) (by intro h; cases h) hw1 Hr1.out).mono ?_
  rintro e w2 ⟨hb2, (⟨h0, g, A2, cap2, rfl, hlay⟩ | ⟨hne, _⟩)⟩
  case inr => exact absurd La.first_new hne
  have hs2 := hb2.size
  have hg2 := lt_heap hlay.1
  have Hb2 := Lib.hid (Hb1.out.trans (hb2.mono hs1)); have Hlay2 := Lib.hid hlay
  have hgood : La.Good 6 [2, 3, 6] := La.good_new La.first_new
  have Hgood := Lib.hid hgood
  clear hb2 hlay h0 hgood Hr1 Hb1
  go_wp2_with (go_at_call 15; refine (num_calls 0 _ (by omega) (by omega)).mono ?_; rintro e w' ⟨rfl, rfl⟩)
  refine (Range_calls g A2 3 cap2 _ [2, 3, 6] 1 w2 Hlay2.out (by omega)).mono ?_
  rintro e w3 ⟨rfl, k3, rfl⟩
  rw [La.first_rng]
  have Hlay3 := Lib.hid (Hlay2.out.below (below_drewN (Below.refl _ _) k3)); have Hb3 := Lib.hid (below_drewN Hb2.out k3)
  have hg3 : g < (w2.drewN k3).heap.size := hg2
  generalize w2.drewN k3 = w3 at *
  clear Hlay2 Hb2 hg2 hs2
  go_wp2_with fail
  have hs3 := Hb3.out.size
  have hb4 := lit_below w3 #[.int .i64 5, .int .i64 0, .int .i64 5, .int .i64 9, .int .i64 1] 3
  have hw4 : w3.heap.size + 1 ≤ (w3.alloc (.cells #[.int .i64 5, .int .i64 0, .int .i64 5, .int .i64 9, .int .i64 1] 3)).heap.size := by simp
  have Hr4 := Lib.hid (rd_fresh w3 _ #[.int .i64 5, .int .i64 0, .int .i64 5, .int .i64 9, .int .i64 1] 3 (0, 0) ([5, 0, 5, 9, 1].map VI) rfl rfl)
  generalize w3.alloc (.cells #[.int .i64 5, .int .i64 0, .int .i64 5, .int .i64 9, .int .i64 1] 3) = w4 at *
  have Hlay4 := Lib.hid (Hlay3.out.below hb4); have Hb4 := Lib.hid (Hb3.out.trans (hb4.mono hs3))
  have hs4 := Hb4.out.size
  clear hb4 Hlay3 Hb3
  refine (Of_calls g A2 3 cap2 _ [2, 3, 6] 6 (some ⟨w3.heap.size, 0, none⟩) 5 5 (w3.heap.size + 1) [5, 0, 5, 9, 1] w4 Hlay4.out Hgood.out rfl (by decide) hw4 Hr4.out).mono ?_
  rintro e w5 ⟨A5, m5, cap5, rfl, hm5, hown5, hb5⟩
  rw [La.first_of] at hm5 hown5
  obtain rfl : m5 = 2 := hm5
  have hs5 := hb5.size
  have Hlay5 := Lib.hid (Hlay4.out.below hb5); have Hb5 := Lib.hid (Hb4.out.trans (hb5.mono hs4)); have Hown5 := Lib.hid hown5
  clear hb5 hown5 Hlay4 Hb4 Hr4
  go_wp2_with fail
  have hb6 := lit_below w5 #[.int .i64 0, .int .i64 2] 3
  have hw6 : w5.heap.size + 1 ≤ (w5.alloc (.cells #[.int .i64 0, .int .i64 2] 3)).heap.size := by simp
  have Hr6 := Lib.hid (rd_fresh w5 _ #[.int .i64 0, .int .i64 2] 3 (0, 0) ([0, 2].map VI) rfl rfl)
  generalize w5.alloc (.cells #[.int .i64 0, .int .i64 2] 3) = w6 at *
  have Hlay6 := Lib.hid (Hlay5.out.below hb6); have Hb6 := Lib.hid (Hb5.out.trans (hb6.mono Hb5.out.size)); have Hown6 := Lib.hid (own_below Hown5.out hb6 (Nat.le_refl _))
  obtain ⟨p1, p2⟩ := own_cap Hown6.out
  clear hb6 Hlay5 Hb5 Hown5
  refine (sameI_calls A5 (some ⟨w5.heap.size, 0, none⟩) 2 cap5 2 2 _ _ [0, 2] [0, 2] w6 rfl rfl p1 (by decide) p2 (by unfold maxLen; decide) (own_rd Hown6.out) Hr6.out).mono ?_
  rintro e w7 ⟨rfl, k7, rfl⟩
  rw [decide_eq_true rfl]
  have Hlay7 := Lib.hid (Hlay6.out.below (below_drewN (Below.refl _ _) k7)); have Hb7 := Lib.hid (below_drewN Hb6.out k7)
  generalize w6.drewN k7 = w7 at *
  clear Hlay6 Hb6 Hown6 Hr6 p1 p2 hw6 hw4 hw1
  go_wp2_with fail
  have hb8 := lit_below w7 #[.int .i64 0, .int .i64 0, .int .i64 0, .int .i64 0, .int .i64 0, .int .i64 9] 3
  have hw8 : w7.heap.size + 1 ≤ (w7.alloc (.cells #[.int .i64 0, .int .i64 0, .int .i64 0, .int .i64 0, .int .i64 0, .int .i64 9] 3)).heap.size := by simp
  have Hr8 := Lib.hid (rd_fresh w7 _ #[.int .i64 0, .int .i64 0, .int .i64 0, .int .i64 0, .int .i64 0, .int .i64 9] 3 (0, 0) ([0, 0, 0, 0, 0, 9].map VI) rfl rfl)
  generalize w7.alloc (.cells #[.int .i64 0, .int .i64 0, .int .i64 0, .int .i64 0, .int .i64 0, .int .i64 9] 3) = w8 at *
  have Hlay8 := Lib.hid (Hlay7.out.below hb8); have Hb8 := Lib.hid (Hb7.out.trans (hb8.mono Hb7.out.size))
  clear hb8 Hlay7 Hb7
  refine (Balanced_calls (some ⟨w7.heap.size, 0, none⟩) 6 6 (w7.heap.size + 1) [0, 0, 0, 0, 0, 9] 3 w8 rfl (by decide) (by unfold maxLen; decide) hw8 Hr8.out).mono ?_
  rintro e w9 ⟨hb9, (⟨h0, g9, A9, cap9, rfl, hlay9⟩ | ⟨hne, _⟩)⟩
  case inr => exact absurd La.first_balE hne
  have hlay9 : LayIs w9 w8.heap.size g9 A9 3 cap9 [4, 5, 6] := by
    have e : La.balL [0, 0, 0, 0, 0, 9] (3 : Int).toNat (3 : Int).toNat = [4, 5, 6] := La.first_balL
    rw [e] at hlay9; exact hlay9
  have Hlay9 := Lib.hid (Hlay8.out.below hb9); have Hb9 := Lib.hid (Hb8.out.trans (hb9.mono Hb8.out.size)); have HBal9 := Lib.hid hlay9
  clear hb9 h0 hlay9 Hlay8 Hb8 Hr8 hw8
  go_wp2_with fail
  have hb10 := lit_below w9 #[.int .i64 3, .int .i64 3] 3
  have hw10 : w9.heap.size + 1 ≤ (w9.alloc (.cells #[.int .i64 3, .int .i64 3] 3)).heap.size := by simp
  have Hr10 := Lib.hid (rd_fresh w9 _ #[.int .i64 3, .int .i64 3] 3 (0, 0) ([3, 3].map VI) rfl rfl)
  generalize w9.alloc (.cells #[.int .i64 3, .int .i64 3] 3) = w10 at *
  have Hlay10 := Lib.hid (Hlay9.out.below hb10); have Hb10 := Lib.hid (Hb9.out.trans (hb10.mono Hb9.out.size)); have HBal10 := Lib.hid (HBal9.out.below hb10)
  clear hb10 Hlay9 Hb9 HBal9
  refine (New_calls 3 (some ⟨w9.heap.size, 0, none⟩) 2 2 (w9.heap.size + 1) [3, 3] w10 rfl (by decide) (by intro h; cases h) hw10 Hr10.out).mono ?_
  rintro e w11 ⟨hb11, (⟨h0, _⟩ | ⟨hne, rfl⟩)⟩
  case inl => rw [La.first_bad] at h0; exact absurd h0 (by decide)
  rw [La.first_bad]
  have Hlay11 := Lib.hid (Hlay10.out.below hb11); have Hb11 := Lib.hid (Hb10.out.trans (hb11.mono Hb10.out.size)); have HBal11 := Lib.hid (HBal10.out.below hb11)
  clear hb11 hne Hlay10 Hb10 HBal10 Hr10 hw10
  go_wp2_with (go_at_call 15; refine (num_calls 0 _ (by omega) (by omega)).mono ?_; rintro e w' ⟨rfl, rfl⟩)
  refine (Cuts_calls g9 A9 3 cap9 _ [4, 5, 6] w11 HBal11.out (by decide)).mono ?_
  rintro e w12 ⟨A12, cap12, rfl, hown12, hb12⟩
  have Hlay12 := Lib.hid (Hlay11.out.below hb12); have Hb12 := Lib.hid (Hb11.out.trans (hb12.mono Hb11.out.size)); have Hown12 := Lib.hid hown12
  clear hb12 hown12 Hlay11 Hb11 HBal11
  go_wp2_with fail
  have hb13 := lit_below w12 #[.int .i64 4, .int .i64 5, .int .i64 6] 3
  have Hr13 := Lib.hid (rd_fresh w12 _ #[.int .i64 4, .int .i64 5, .int .i64 6] 3 (0, 0) ([4, 5, 6].map VI) rfl rfl)
  generalize w12.alloc (.cells #[.int .i64 4, .int .i64 5, .int .i64 6] 3) = w13 at *
  have Hlay13 := Lib.hid (Hlay12.out.below hb13); have Hb13 := Lib.hid (Hb12.out.trans (hb13.mono Hb12.out.size)); have Hown13 := Lib.hid (own_below Hown12.out hb13 (Nat.le_refl _))
  obtain ⟨p1, p2⟩ := own_cap Hown13.out
  clear hb13 Hlay12 Hb12 Hown12
  refine (sameI_calls A12 (some ⟨w12.heap.size, 0, none⟩) 3 cap12 3 3 _ _ [4, 5, 6] [4, 5, 6] w13 rfl rfl p1 (by decide) p2 (by unfold maxLen; decide) (own_rd Hown13.out) Hr13.out).mono ?_
  rintro e w14 ⟨rfl, k14, rfl⟩
  rw [decide_eq_true rfl]
  have Hlay14 := Lib.hid (Hlay13.out.below (below_drewN (Below.refl _ _) k14)); have Hb14 := Lib.hid (below_drewN Hb13.out k14)
  generalize w13.drewN k14 = w14 at *
  clear Hlay13 Hb13 Hown13 Hr13 p1 p2
  go_wp2_with fail
  refine (N_calls g A2 3 cap2 _ [2, 3, 6] w14 Hlay14.out).mono ?_
  rintro e w15 ⟨rfl, k15, rfl⟩
  rw [La.first_last]
  have Hlay15 := Lib.hid (Hlay14.out.below (below_drewN (Below.refl _ _) k15)); have Hb15 := Lib.hid (below_drewN Hb14.out k15)
  generalize w14.drewN k15 = w15 at *
  clear Hlay14 Hb14
  go_wp2_with fail
  refine (Shards_calls g A2 3 cap2 _ [2, 3, 6] w15 Hlay15.out).mono ?_
  rintro e w' ⟨rfl, rfl⟩
  go_wp2_with fail
  refine (Shard_calls g A2 3 cap2 _ [2, 3, 6] 5 w15 Hlay15.out Hgood.out.1 (by decide)).mono ?_
  rintro e w16 ⟨rfl, hb16⟩
  rw [La.first_s5]
  have Hlay16 := Lib.hid (Hlay15.out.below hb16); have Hb16 := Lib.hid (Hb15.out.trans (hb16.mono Hb15.out.size))
  clear Hlay15 Hb15 hb16
  go_wp2_with fail
  refine (Shard_calls g A2 3 cap2 _ [2, 3, 6] 6 w16 Hlay16.out Hgood.out.1 (by decide)).mono ?_
  rintro e w17 ⟨rfl, hb17⟩
  rw [La.first_s6]
  have Hb17 := Lib.hid (Hb16.out.trans (hb17.mono Hb16.out.size))
  clear Hlay16 Hb16 hb17
  go_wp2_with (go_at_call 15; refine (num_calls 100 _ (by omega) (by omega)).mono ?_; rintro e w' ⟨rfl, rfl⟩)
  go_ret
  exact ⟨rfl, Hb17.out⟩
end Go.Proofs.Ytlceolhfkioojaa
