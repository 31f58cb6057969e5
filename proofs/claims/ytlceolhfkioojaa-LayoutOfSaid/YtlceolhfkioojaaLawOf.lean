/- LayoutOf: the walk -/
import Derived.Test.YtlceolhfkioojaaLaL
namespace Go.Proofs.Ytlceolhfkioojaa
open Go.ChangeShapes Go.WideShapes Go.ChangeAt Go.RowKit
set_option linter.unusedSimpArgs false
set_option linter.unusedVariables false
theorem any_step {l : List Int} {p : Int → Bool} {b : Nat} {v : Int} (h : l[b]? = some v) : (l.take (b + 1)).any p = ((l.take b).any p || p v) := by
  rw [List.take_add_one, h, List.any_append]; simp
theorem La.ofL_mem {zs vs : List Int} {j : Nat} {o : Int} (h : (La.ofL zs vs)[j]? = some o) : (vs.any fun v => La.shardP zs v == o) = true := by
  have hm := List.mem_of_getElem? h
  unfold La.ofL at hm
  obtain ⟨i, hi, rfl⟩ := List.mem_map.1 hm
  have h2 := (List.mem_filter.1 hi).2
  obtain ⟨v, hv, hd⟩ := List.any_eq_true.1 h2
  exact List.any_eq_true.2 ⟨v, hv, by rw [beq_iff_eq]; exact of_decide_eq_true hd⟩
theorem La.ofL_sorted (zs vs : List Int) : (La.ofL zs vs).Pairwise (· < ·) := by
  unfold La.ofL
  rw [List.pairwise_map]
  exact (List.Pairwise.filter _ List.pairwise_lt_range).imp (fun h => by omega)
theorem La.ofL_lt {zs vs : List Int} {j : Nat} {x y : Int} (hx : (La.ofL zs vs)[j]? = some x) (hy : (La.ofL zs vs)[j + 1]? = some y) : x < y := by
  obtain ⟨h1, rfl⟩ := List.getElem?_eq_some_iff.1 hx
  obtain ⟨h2, rfl⟩ := List.getElem?_eq_some_iff.1 hy
  exact List.pairwise_iff_getElem.1 (La.ofL_sorted zs vs) j (j + 1) h1 h2 (by omega)
theorem La.ofL_comm (zs vs us : List Int) : La.ofL zs (us ++ vs) = La.ofL zs (vs ++ us) := by
  unfold La.ofL
  congr 1
  apply List.filter_congr
  intro i _
  rw [List.any_append, List.any_append, Bool.or_comm]
theorem La.ofL_has {zs vs us : List Int} {j : Nat} {v : Int} (hr : La.rises 0 zs = true) (hv : vs[j]? = some v) (h0 : La.shardP zs v ≠ -1) : ((La.ofL zs (vs ++ us)).any fun o => o == La.shardP zs v) = true := by
  rcases La.shard_lt zs v hr with h | ⟨i, hi, he⟩
  · exact absurd h h0
  · refine List.any_eq_true.2 ⟨(i : Int), ?_, by rw [he]; simp⟩
    unfold La.ofL
    refine List.mem_map.2 ⟨i, List.mem_filter.2 ⟨List.mem_range.2 hi, ?_⟩, rfl⟩
    rw [List.any_append, Bool.or_eq_true]; left
    exact List.any_eq_true.2 ⟨v, List.mem_of_getElem? hv, decide_eq_true he⟩
theorem s_keep2 {W w' w'' : World} {B : Nat} {p q : Addr} {v u : Value} (h : (w'.cell? p = some v ∧ w'.cell? q = some u) ∧ Below B W w') (hp : p.block < B) (hq : q.block < B) (hB : B ≤ W.heap.size) (hb : Below w'.heap.size w' w'') : (w''.cell? p = some v ∧ w''.cell? q = some u) ∧ Below B W w'' := by
  have hs := h.2.size
  exact ⟨⟨(hb.cell (Nat.lt_of_lt_of_le hp (Nat.le_trans hB hs))).trans h.1.1, (hb.cell (Nat.lt_of_lt_of_le hq (Nat.le_trans hB hs))).trans h.1.2⟩, h.2.trans (hb.mono (Nat.le_trans hB hs))⟩
set_option maxHeartbeats 8000000 in
set_option maxRecDepth 20000 in
theorem law_of (n : Int) (A1 : Option Addr) (k1 cap1 : Nat) (zs : List Int) (A2 : Option Addr) (k2 cap2 : Nat) (vs : List Int) (A3 : Option Addr) (k3 cap3 : Nat) (us : List Int) (w : World)
    (hnw : (Lit.int .i64 n).wf = true) (ha1 : InI w A1 k1 cap1 zs) (ha2 : InI w A2 k2 cap2 vs) (ha3 : InI w A3 k3 cap3 us) :
    Calls Try.prog 6 #[.int .i64 n, .slice A1 k1 cap1, .slice A2 k2 cap2, .slice A3 k3 cap3] w fun e w' => e = .returned (.bool true) ∧ Below w.heap.size w w' := by
  obtain ⟨i0, hi, hz0, hz1, hz2⟩ := info_parts infoInt
  have Hi := Lib.hid hi; clear hi
  obtain ⟨hn1, hc1, hcm1, hnil1, hr1, _⟩ := ha1
  obtain ⟨hn2, hc2, hcm2, hnil2, hr2, _⟩ := ha2
  obtain ⟨hn3, hc3, hcm3, hnil3, hr3, _⟩ := ha3
  have Hn1 := Lib.hid hn1; have Hr1 := Lib.hid hr1; have Hcm1 := Lib.hid hcm1; have Hnil1 := Lib.hid hnil1
  have Hn2 := Lib.hid hn2; have Hr2 := Lib.hid hr2; have Hcm2 := Lib.hid hcm2; have Hnil2 := Lib.hid hnil2
  have Hn3 := Lib.hid hn3; have Hr3 := Lib.hid hr3; have Hcm3 := Lib.hid hcm3; have Hnil3 := Lib.hid hnil3
  unfold maxLen at hcm1 hcm2 hcm3
  clear hn1 hn2 hn3 hr1 hr2 hr3 hnil1 hnil2 hnil3 hnw
  go_enter Try.func6, Try.ntmps6
  go_wp2_with fail
  refine (first_calls w).mono ?_
  rintro e w1 ⟨rfl, hb1⟩
  have hs1 := hb1.size
  have Hb1 := Lib.hid hb1
  clear hb1
  by_cases hbi : (65536 : Int) < (k1 : Int)
  · go_wp2_with fail
    go_ret
    exact ⟨rfl, Hb1.out⟩
  by_cases hbi2 : (60 : Int) < (k2 : Int)
  · go_wp2_with fail
    go_ret
    exact ⟨rfl, Hb1.out⟩
  by_cases hbi3 : (60 : Int) < (k3 : Int)
  · go_wp2_with fail
    go_ret
    exact ⟨rfl, Hb1.out⟩
  have b1 : k1 ≤ 65536 := by omega
  have b2 : k2 ≤ 60 := by omega
  have b3 : k3 ≤ 60 := by omega
  go_wp2_with fail
  refine (New_calls n A1 k1 cap1 w.heap.size zs w1 Hn1.out (by omega) Hnil1.out hs1 (Hr1.out.below Hb1.out (Nat.le_refl _))).mono ?_
  rintro e w2 ⟨hb2, hans⟩
  have Hb2 := Lib.hid (Hb1.out.trans (hb2.mono hs1))
  clear hb2 Hb1
  rcases hans with ⟨h0, g, A4, cap4, rfl, hlay⟩ | ⟨_, rfl⟩
  case inr =>
    go_wp2_with fail
    go_ret
    exact ⟨rfl, Hb2.out⟩
  have Hlay := Lib.hid hlay; have Hgood := Lib.hid (La.good_new h0)
  clear hlay h0
  go_wp2_with fail
  refine (ints_calls A2 k2 cap2 w.heap.size vs w2 Hn2.out (by omega) Hb2.out.size (Hr2.out.below Hb2.out (Nat.le_refl _))).mono ?_
  rintro e w3 ⟨A5, cap5, rfl, hown5, hb3⟩
  have hs3 := hb3.size
  have Hb3 := Lib.hid hb3
  have Hown5 := Lib.hid (own_below hown5 ((Below.refl w3.heap.size w3).alloc (Nat.le_refl _) (.cells #[.int .i64 (-77), .int .i64 (-78)] 3)) (Nat.le_refl _))
  clear hown5 hb3
  go_wp2_with (at_builtin; refine wpList_append_rd rfl _ _ 22 rfl w2.heap.size 3 i0 _ 8 descInts Hi.out hz0 hz1 hz2 rfl _ k2 (vs.map VI) rfl Hown5.out _ (some ⟨w3.heap.size, 0, none⟩) 2 2 [.int .i64 (-77), .int .i64 (-78)] rfl rfl (by intro h; cases h) (rd_fresh _ _ _ _ _ _ rfl rfl) (by intro u hu; simp at hu; rcases hu with rfl | rfl <;> rfl) (by unfold maxLen; omega) (by omega) (by simp; omega) ?_)
  intro v6 w6 hown6 hg6
  rw [show vs.map VI ++ [.int .i64 (-77), .int .i64 (-78)] = (vs ++ [-77, -78]).map VI by rw [List.map_append]; rfl] at hown6
  obtain ⟨A6, cap6, rfl, p1, p2, _⟩ := own_form hown6
  obtain ⟨g6, rfl⟩ := own_some1 hown6 (by omega)
  have hb6 : Below w2.heap.size w2 w6 := (Hb3.out.alloc hs3 _).grown hg6 (by simp; omega) fun k hk => (Hown5.out.lt k hk).1
  have Hown6 := Lib.hid hown6; have Hb6 := Lib.hid (Hb2.out.trans (hb6.mono Hb2.out.size)); have Hlay6 := Lib.hid (Hlay.out.below hb6)
  have P2 := Lib.hid p2
  unfold maxLen at p2
  have q1 : (k2 : Int) ≤ (cap6 : Int) := by omega
  clear hown6 hg6 hb6 Hown5 Hb2 Hb3 Hlay
  go_wp2_with fail
  refine (Of_calls g A4 k1 cap4 _ zs n (some ⟨g6, 0, none⟩) k2 cap6 w6.heap.size vs w6 Hlay6.out Hgood.out Hn2.out (by omega) (Nat.le_refl _) (rd_preI (own_rd Hown6.out))).mono ?_
  rintro e w7 ⟨A7, m7, cap7, rfl, hm7, hown7, hb7⟩
  obtain ⟨p3, p4⟩ := own_cap hown7
  have Hm7 := Lib.hid hm7; have Hown7 := Lib.hid hown7; have Hb7 := Lib.hid (Hb6.out.trans (hb7.mono Hb6.out.size)); have Hlay7 := Lib.hid (Hlay6.out.below hb7); have Hown67 := Lib.hid (own_below Hown6.out hb7 (Nat.le_refl _))
  unfold maxLen at p4
  clear hm7 hown7 hb7 Hb6 Hlay6 Hown6
  go_wp2_with fail
  refine (sameI_calls (some ⟨g6, 0, none⟩) A2 k2 cap6 k2 cap2 w7.heap.size w.heap.size vs vs w7 Hn2.out Hn2.out (by omega) hc2 P2.out Hcm2.out (rd_preI (own_rd Hown67.out)) (Hr2.out.below Hb7.out (Nat.le_refl _))).mono ?_
  rintro e w8 ⟨rfl, k8, rfl⟩
  rw [decide_eq_true rfl]
  have Hown78 := Lib.hid (own_below Hown7.out (below_drewN (Below.refl _ _) k8) (Nat.le_refl _)); have Hb8 := Lib.hid (below_drewN Hb7.out k8); have Hlay8 := Lib.hid (Hlay7.out.below (below_drewN (Below.refl _ _) k8)); have Hown68 := Lib.hid (own_below Hown67.out (below_drewN (Below.refl _ _) k8) (Nat.le_refl _))
  generalize w7.drewN k8 = w8 at *
  have hcA : w8.cell? ⟨g6, k2, none⟩ = some (.int .i64 (-77)) := by
    have := Hown68.out.cellAt k2 (by omega)
    rw [this, List.getElem?_map, List.getElem?_append_right (by rw [← Hn2.out]; exact Nat.le_refl _), ← Hn2.out, Nat.sub_self]; rfl
  have hcB : w8.cell? ⟨g6, k2 + 1, none⟩ = some (.int .i64 (-78)) := by
    have := Hown68.out.cellAt (k2 + 1) (by omega)
    rw [this, List.getElem?_map, List.getElem?_append_right (by rw [← Hn2.out]; omega), ← Hn2.out, Nat.add_sub_cancel_left]; rfl
  have q2 : (k2 : Int) < (k2 : Int) + 2 := by omega
  have q3 : (k2 : Int) + 1 < (k2 : Int) + 2 := by omega
  clear Hb7 Hlay7 Hown67 Hown7 Hown68
  go_wp2_with fail
  clear hcA hcB
  go_loopw [15] (fun i wr => ∃ j : Nat, i = .int .i64 (j : Int) ∧ j ≤ m7 ∧ LayIs wr w1.heap.size g A4 k1 cap4 zs ∧ wr.ownsRow w6.heap.size 3 1 (.slice A7 m7 cap7) m7 ((La.ofL zs vs).map VI) ∧ Below w.heap.size w wr) (fun i _ => m7 - (intOf i).toNat)
  case atStart => exact ⟨0, rfl, by omega, Hlay8.out, Hown78.out, Hb8.out⟩
  case round =>
    obtain ⟨j, rfl, hj, hlay, hown, hbl⟩ := hrel
    have Hlayr := Lib.hid hlay; have Hownr := Lib.hid hown; have Hblr := Lib.hid hbl
    clear hlay hown hbl
    by_cases hjm : j < m7
    · have l1 : (j : Int) < (m7 : Int) := by omega
      obtain ⟨o, ho⟩ : ∃ o, (La.ofL zs vs)[j]? = some o := ⟨(La.ofL zs vs)[j]'(by rw [← Hm7.out]; omega), List.getElem?_eq_getElem _⟩
      have Hany := Lib.hid (La.ofL_mem ho)
      have Ho := Lib.hid ho
      clear ho
      go_wp2_with fail
      go_loopw [16, 17] (fun f i wx => ∃ b : Nat, i = .int .i64 (b : Int) ∧ b ≤ k2 ∧ f = .bool ((vs.take b).any fun v => La.shardP zs v == o) ∧ LayIs wx w1.heap.size g A4 k1 cap4 zs ∧ wx.ownsRow w6.heap.size 3 1 (.slice A7 m7 cap7) m7 ((La.ofL zs vs).map VI) ∧ Below w.heap.size w wx) (fun _ i _ => k2 - (intOf i).toNat)
      case atStart => exact ⟨0, rfl, by omega, rfl, Hlayr.out, Hownr.out, Hblr.out⟩
      case round =>
        obtain ⟨b, rfl, hb, rfl, hlay, hown, hbl⟩ := hrel
        have Hlayx := Lib.hid hlay; have Hownx := Lib.hid hown; have Hblx := Lib.hid hbl
        clear hlay hown hbl
        by_cases hbk : b < k2
        · have l2 : (b : Int) < (k2 : Int) := by omega
          obtain ⟨v, hv⟩ : ∃ v, vs[b]? = some v := ⟨vs[b]'(by rw [← Hn2.out]; omega), List.getElem?_eq_getElem _⟩
          obtain ⟨bb, off, rfl, hbB, hcv⟩ := rd_get (Hr2.out.below Hblx.out (Nat.le_refl _)) hv
          obtain ⟨bo, offo, rfl, hoB, hco⟩ := rd_get (own_rd Hownx.out) Ho.out
          have hsn := any_step (p := fun v => La.shardP zs v == o) hv
          have hsz := Hblx.out.size
          have hbl5 : bb < wr.heap.size := by omega
          generalize ((vs.take b).any fun v => La.shardP zs v == o) = cur at *
          have hsn2 : ((vs.take (b + 1)).any fun v => La.shardP zs v == o) = (cur || (La.shardP zs v == o)) := hsn
          generalize hS' : La.shardP zs v = s at *
          have HS := Lib.hid hS'; have Hsn := Lib.hid hsn2
          clear hv hsn hsn2 hS'
          have hst : (wr.drew.cell? ⟨bb, off + b, none⟩ = some (.int .i64 v) ∧ wr.drew.cell? ⟨bo, offo + j, none⟩ = some (.int .i64 o)) ∧ Below wr.heap.size wr wr.drew := ⟨⟨hcv, hco⟩, below_drewN (Below.refl _ _) 1⟩
          cases cur with
          | true =>
            clear hst
            go_wp2_with fail
            go_big_quiet (fail)
            go_wp2_with fail
            exact ⟨⟨b + 1, by congr 1, by omega, by rw [Hsn.out]; rfl, Hlayx.out.below (below_drewN (Below.refl _ _) _), own_below Hownx.out (below_drewN (Below.refl _ _) _) (Nat.le_refl _), below_drewN Hblx.out _⟩, by simp [intOf]; omega⟩
          | false =>
            go_wp2_with fail
            go_region_held3 (fun w' => (w'.cell? ⟨bb, off + b, none⟩ = some (.int .i64 v) ∧ w'.cell? ⟨bo, offo + j, none⟩ = some (.int .i64 o)) ∧ Below wr.heap.size wr w')
              ((rename (_ ∧ _) ∧ Below _ _ _ => hS; first
                | exact hS
                | exact hst
                | exact s_keep2 hS hbl5 hoB (Nat.le_refl _) (by assumption)
                | exact s_keep2 hS hbl5 hoB (Nat.le_refl _) (below_drewN (Below.refl _ _) _)))
              ((first
                | (go_at_call 25; rename (_ ∧ _) ∧ Below _ _ _ => hS; refine (Shard_calls g A4 k1 cap4 _ zs v _ (Hlayx.out.below hS.2) Hgood.out.1 (by omega)).mono ?_; rintro e w' ⟨rfl, hbS⟩; rw [HS.out])))
            all_goals (rename (_ ∧ _) ∧ Below _ _ _ => hF)
            all_goals (have H6 := Lib.hid (Hlayx.out.below hF.2); have Hb6 := Lib.hid (Hblx.out.trans (hF.2.mono hsz)); have Ho6 := Lib.hid (own_below Hownx.out hF.2 (Nat.le_refl _)))
            all_goals clear hF hst
            all_goals go_wp2_with fail
            all_goals exact ⟨⟨b + 1, by congr 1, by omega, by rw [Hsn.out]; rfl, H6.out, Ho6.out, Hb6.out⟩, by simp [intOf]; omega⟩
        · obtain rfl : b = k2 := by omega
          have hT : vs.take b = vs := List.take_of_length_le (by rw [← Hn2.out]; exact Nat.le_refl _)
          rw [hT, Hany.out]
          clear hT
          rcases Nat.eq_zero_or_pos j with hj0 | hj0
          · have f1 : ¬ (0 : Int) < (j : Int) := by omega
            have Hj0 := Lib.hid hj0
            go_wp2_with fail
            go_big_quiet (fail)
            go_wp2_with fail
            exact ⟨⟨j + 1, by have := Hj0.out; subst this; rfl, by omega, Hlayx.out.below (below_drewN (Below.refl _ _) _), own_below Hownx.out (below_drewN (Below.refl _ _) _) (Nat.le_refl _), below_drewN Hblx.out _⟩, by have := Hj0.out; subst this; simp [intOf]; omega⟩
          · have f1 : (0 : Int) < (j : Int) := by omega
            obtain ⟨j', hj'⟩ : ∃ j', j = j' + 1 := ⟨j - 1, by omega⟩
            have e1 : (j : Int) - 1 = (j' : Int) := by omega
            have l3 : (j' : Int) < (m7 : Int) := by omega
            obtain ⟨x, hx⟩ : ∃ x, (La.ofL zs vs)[j']? = some x := ⟨(La.ofL zs vs)[j']'(by rw [← Hm7.out]; omega), List.getElem?_eq_getElem _⟩
            have hxo := La.ofL_lt hx (by rw [← hj']; exact Ho.out)
            have f2 : ¬ o ≤ x := by omega
            obtain ⟨bo, offo, hA7, hoB, hco⟩ := rd_get (own_rd Hownx.out) Ho.out
            obtain ⟨bo', offo', hA7', hoB', hcx⟩ := rd_get (own_rd Hownx.out) hx
            rw [hA7] at hA7'
            injection hA7' with hA7'
            injection hA7' with e2 e3
            subst e2 e3 hA7
            have Hj' := Lib.hid hj'
            clear hx hj'
            go_wp2_with fail
            go_big_quiet (fail)
            go_wp2_with fail
            exact ⟨⟨j + 1, by congr 1, by omega, Hlayx.out.below (below_drewN (Below.refl _ _) _), own_below Hownx.out (below_drewN (Below.refl _ _) _) (Nat.le_refl _), below_drewN Hblx.out _⟩, by simp [intOf]; omega⟩
    · obtain rfl : j = m7 := by omega
      have hszr := Hblr.out.size
      clear hjm hj Hownr Hlay8 Hown78 Hb8
      go_wp2_with fail
      refine (ints_calls A2 k2 cap2 w.heap.size vs wr Hn2.out (by omega) hszr (Hr2.out.below Hblr.out (Nat.le_refl _))).mono ?_
      rintro e w9 ⟨A9, cap9, rfl, hown9, hb9⟩
      have Hown9 := Lib.hid hown9; have Hb9 := Lib.hid hb9
      have Hr3r := Lib.hid ((Hr3.out.below Hblr.out (Nat.le_refl _)).below Hb9.out hszr)
      clear hown9 hb9
      go_wp2_with (at_builtin; refine wpList_append_rd rfl _ _ 22 rfl wr.heap.size 3 i0 _ 8 descInts Hi.out hz0 hz1 hz2 rfl _ k2 (vs.map VI) rfl Hown9.out _ A3 k3 cap3 (us.map VI) rfl (by rw [List.length_map]; exact Hn3.out) Hnil3.out Hr3r.out (vi_one us) (by unfold maxLen; omega) (by omega) Hb9.out.size ?_)
      intro v10 w10 hown10 hg10
      rw [← List.map_append] at hown10
      obtain ⟨A10, cap10, rfl, p5, p6, hlen10⟩ := own_form hown10
      have hb10 : Below wr.heap.size wr w10 := Hb9.out.grown hg10 Hb9.out.size fun k hk => (Hown9.out.lt k hk).1
      have Hown10 := Lib.hid hown10; have Hb10 := Lib.hid (Hblr.out.trans (hb10.mono hszr)); have Hlay10 := Lib.hid (Hlayr.out.below hb10)
      have Hlen10 := Lib.hid (show k2 + k3 = (vs ++ us).length by rw [List.length_append, ← Hn2.out, ← Hn3.out])
      clear hown10 hg10 hb10 Hown9 Hb9 Hr3r hlen10
      go_wp2_with fail
      refine (Of_calls g A4 k1 cap4 _ zs n A10 (k2 + k3) cap10 w10.heap.size (vs ++ us) w10 Hlay10.out Hgood.out Hlen10.out (by omega) (Nat.le_refl _) (own_rd Hown10.out)).mono ?_
      rintro e w11 ⟨A11, m11, cap11, rfl, hm11, hown11, hb11⟩
      obtain ⟨p7, p8⟩ := own_cap hown11
      have Hm11 := Lib.hid hm11; have Hown11 := Lib.hid hown11; have Hb11 := Lib.hid (Hb10.out.trans (hb11.mono Hb10.out.size)); have Hlay11 := Lib.hid (Hlay10.out.below hb11)
      have hs11 := Hb11.out.size
      have P8 := Lib.hid p8
      unfold maxLen at p8
      clear hm11 hown11 hb11 Hb10 Hlay10 Hown10 Hlayr Hblr
      go_wp2_with fail
      refine (ints_calls A3 k3 cap3 w.heap.size us w11 Hn3.out (by omega) hs11 (Hr3.out.below Hb11.out (Nat.le_refl _))).mono ?_
      rintro e w12 ⟨A12, cap12, rfl, hown12, hb12⟩
      have Hown12 := Lib.hid hown12; have Hb12 := Lib.hid hb12
      have Hr2r := Lib.hid ((Hr2.out.below Hb11.out (Nat.le_refl _)).below Hb12.out hs11)
      clear hown12 hb12
      go_wp2_with (at_builtin; refine wpList_append_rd rfl _ _ 22 rfl w11.heap.size 3 i0 _ 8 descInts Hi.out hz0 hz1 hz2 rfl _ k3 (us.map VI) rfl Hown12.out _ A2 k2 cap2 (vs.map VI) rfl (by rw [List.length_map]; exact Hn2.out) Hnil2.out Hr2r.out (vi_one vs) (by unfold maxLen; omega) (by omega) Hb12.out.size ?_)
      intro v13 w13 hown13 hg13
      rw [← List.map_append] at hown13
      obtain ⟨A13, cap13, rfl, p9, p10, hlen13⟩ := own_form hown13
      have hb13 : Below w11.heap.size w11 w13 := Hb12.out.grown hg13 Hb12.out.size fun k hk => (Hown12.out.lt k hk).1
      have Hown13 := Lib.hid hown13; have Hb13 := Lib.hid (Hb11.out.trans (hb13.mono hs11)); have Hlay13 := Lib.hid (Hlay11.out.below hb13); have Hown113 := Lib.hid (own_below Hown11.out hb13 (Nat.le_refl _))
      have Hlen13 := Lib.hid (show k3 + k2 = (us ++ vs).length by rw [List.length_append, ← Hn2.out, ← Hn3.out])
      clear hown13 hg13 hb13 Hown12 Hb12 Hr2r hlen13 Hown11 Hb11 Hlay11
      go_wp2_with fail
      refine (Of_calls g A4 k1 cap4 _ zs n A13 (k3 + k2) cap13 w13.heap.size (us ++ vs) w13 Hlay13.out Hgood.out Hlen13.out (by omega) (Nat.le_refl _) (own_rd Hown13.out)).mono ?_
      rintro e w14 ⟨A14, m14, cap14, rfl, hm14, hown14, hb14⟩
      rw [La.ofL_comm] at hm14 hown14
      obtain ⟨p11, p12⟩ := own_cap hown14
      have Hm14 := Lib.hid hm14; have Hown14 := Lib.hid hown14; have Hb14 := Lib.hid (Hb13.out.trans (hb14.mono Hb13.out.size)); have Hlay14 := Lib.hid (Hlay13.out.below hb14); have Hown114 := Lib.hid (own_below Hown113.out hb14 (Nat.le_refl _))
      clear hm14 hown14 hb14 Hb13 Hlay13 Hown13 Hown113
      go_wp2_with fail
      refine (sameI_calls A11 A14 m11 cap11 m14 cap14 w14.heap.size w14.heap.size (La.ofL zs (vs ++ us)) (La.ofL zs (vs ++ us)) w14 Hm11.out Hm14.out p7 p11 P8.out p12 (own_rd Hown114.out) (own_rd Hown14.out)).mono ?_
      rintro e w15 ⟨rfl, k15, rfl⟩
      rw [decide_eq_true rfl]
      have Hown15 := Lib.hid (own_below Hown114.out (below_drewN (Below.refl _ _) k15) (Nat.le_refl _)); have Hb15 := Lib.hid (below_drewN Hb14.out k15); have Hlay15 := Lib.hid (Hlay14.out.below (below_drewN (Below.refl _ _) k15))
      generalize w14.drewN k15 = w15 at *
      clear Hown14 Hown114 Hb14 Hlay14
      go_wp2_with fail
      go_loopw [21] (fun i wr => ∃ a : Nat, i = .int .i64 (a : Int) ∧ a ≤ k2 ∧ LayIs wr w1.heap.size g A4 k1 cap4 zs ∧ wr.ownsRow w10.heap.size 3 1 (.slice A11 m11 cap11) m11 ((La.ofL zs (vs ++ us)).map VI) ∧ Below w.heap.size w wr) (fun i _ => k2 - (intOf i).toNat)
      case atStart => exact ⟨0, rfl, by omega, Hlay15.out, Hown15.out, Hb15.out⟩
      case round =>
        obtain ⟨a, rfl, ha, hlay, hown, hbl⟩ := hrel
        have Hlayx := Lib.hid hlay; have Hownx := Lib.hid hown; have Hblx := Lib.hid hbl
        clear hlay hown hbl
        by_cases hak : a < k2
        · have l2 : (a : Int) < (k2 : Int) := by omega
          obtain ⟨v, hv⟩ : ∃ v, vs[a]? = some v := ⟨vs[a]'(by rw [← Hn2.out]; omega), List.getElem?_eq_getElem _⟩
          obtain ⟨bb, off, rfl, hbB, hcv⟩ := rd_get (Hr2.out.below Hblx.out (Nat.le_refl _)) hv
          have Hhas := Lib.hid (La.ofL_has (us := us) Hgood.out.1 hv)
          have Hsp := Lib.hid (La.shard_lt zs v Hgood.out.1)
          clear hv
          go_wp2_with fail
          refine (Shard_calls g A4 k1 cap4 _ zs v _ Hlayx.out Hgood.out.1 (by omega)).mono ?_
          rintro e w16 ⟨rfl, hb16⟩
          have Hlay16 := Lib.hid (Hlayx.out.below hb16); have Hown16 := Lib.hid (own_below Hownx.out hb16 (Nat.le_refl _)); have Hb16 := Lib.hid (Hblx.out.trans (hb16.mono Hblx.out.size))
          generalize La.shardP zs v = s at *
          clear hb16 hcv Hlayx Hownx Hblx
          go_wp2_with fail
          go_loopw [23, 24] (fun f i wx => ∃ b : Nat, i = .int .i64 (b : Int) ∧ b ≤ m11 ∧ f = .bool (((La.ofL zs (vs ++ us)).take b).any fun o => o == s) ∧ w16 = wx) (fun _ i _ => m11 - (intOf i).toNat)
          case atStart => exact ⟨0, rfl, by omega, rfl, rfl⟩
          case round =>
            obtain ⟨b, rfl, hb, rfl, rfl⟩ := hrel
            by_cases hbk : b < m11
            · have l3 : (b : Int) < (m11 : Int) := by omega
              obtain ⟨o, ho⟩ : ∃ o, (La.ofL zs (vs ++ us))[b]? = some o := ⟨(La.ofL zs (vs ++ us))[b]'(by rw [← Hm11.out]; omega), List.getElem?_eq_getElem _⟩
              obtain ⟨bo, offo, rfl, hoB, hco⟩ := rd_get (own_rd Hown16.out) ho
              have hsn : (((La.ofL zs (vs ++ us)).take (b + 1)).any fun o => o == s) = ((((La.ofL zs (vs ++ us)).take b).any fun o => o == s) || (o == s)) := any_step (p := fun o => o == s) ho
              generalize (((La.ofL zs (vs ++ us)).take b).any fun o => o == s) = cur at *
              have Hsn := Lib.hid hsn
              clear ho hsn
              cases cur with
              | true =>
                go_wp2_with fail
                exact ⟨⟨b + 1, by congr 1, by omega, by rw [Hsn.out]; rfl, trivial⟩, by simp [intOf]; omega⟩
              | false =>
                go_wp2_with fail
                exact ⟨⟨b + 1, by congr 1, by omega, by rw [Hsn.out]; rfl, trivial⟩, by simp [intOf]; omega⟩
            · obtain rfl : b = m11 := by omega
              have hT : (La.ofL zs (vs ++ us)).take b = La.ofL zs (vs ++ us) := List.take_of_length_le (by rw [← Hm11.out]; exact Nat.le_refl _)
              rw [hT]
              clear hT
              by_cases hs0 : s = -1
              · have f1 : ¬ (0 : Int) ≤ s := by omega
                clear hs0
                generalize ((La.ofL zs (vs ++ us)).any fun o => o == s) = cur at *
                go_wp2_with fail
                exact ⟨⟨a + 1, by congr 1, by omega, Hlay16.out, Hown16.out, Hb16.out⟩, by simp [intOf]; omega⟩
              · rw [Hhas.out hs0]
                have f1 : (0 : Int) ≤ s := by rcases Hsp.out with h | ⟨i, _, h⟩ <;> omega
                clear hs0
                go_wp2_with fail
                exact ⟨⟨a + 1, by congr 1, by omega, Hlay16.out, Hown16.out, Hb16.out⟩, by simp [intOf]; omega⟩
        · obtain rfl : a = k2 := by omega
          go_wp2_with fail
          go_ret
          exact ⟨rfl, Hblx.out⟩
end Go.Proofs.Ytlceolhfkioojaa
