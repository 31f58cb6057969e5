/- VarintLists, more, lists: the walks -/
import Derived.Test.YtkohakogknodeaaLawPuts
import Derived.Deep.RegionHeld3
namespace Go.Proofs.Ytkohakogknodeaa
open Go.ChangeShapes Go.WideShapes Go.ChangeAt Go.RowKit
set_option linter.unusedSimpArgs false
set_option linter.unusedVariables false
theorem putE_cases (f : Int) (zs : List Int) : Vi.putE f zs = 0 ∨ Vi.putE f zs = 14 := by unfold Vi.putE; split; exact Or.inl rfl; exact Or.inr rfl
set_option maxHeartbeats 1000000 in
theorem more_calls (A : Option Addr) (n cap B : Nat) (zs : List Int) (w : World) (hn : n = zs.length) (hm : n ≤ 1099511627776) (hB : B ≤ w.heap.size) (hr : Rd w B A (zs.map VI)) :
    Calls Try.prog 21 #[.slice A n cap] w fun e w' => ∃ A' cap', e = .returned (.slice A' (n + 2) cap') ∧ w'.ownsRow w.heap.size 3 1 (.slice A' (n + 2) cap') (n + 2) ((zs ++ [-77, -78]).map VI) ∧ Below w.heap.size w w' := by
  obtain ⟨i0, hi, hz0, hz1, hz2⟩ := info_parts infoInt
  have Hi := Lib.hid hi; have Hn := Lib.hid hn; have Hr := Lib.hid hr
  clear hi hn hr
  go_enter Try.func21, Try.ntmps21
  go_wp2_with fail
  refine (ints_calls A n cap B zs w Hn.out (by omega) hB Hr.out).mono ?_
  rintro e w1 ⟨A1, cap1, rfl, hown1, hb1⟩
  have hs1 := hb1.size
  have Hb1 := Lib.hid hb1
  have Hown1 := Lib.hid (own_below hown1 ((Below.refl w1.heap.size w1).alloc (Nat.le_refl _) (.cells #[.int .i64 (-77), .int .i64 (-78)] 3)) (Nat.le_refl _))
  clear hown1 hb1
  go_wp2_with (at_builtin; refine wpList_append_rd rfl _ _ 29 rfl w.heap.size 3 i0 _ 8 descInts Hi.out hz0 hz1 hz2 rfl _ n (zs.map VI) rfl Hown1.out _ (some ⟨w1.heap.size, 0, none⟩) 2 2 ([-77, -78].map VI) rfl rfl (by intro h; cases h) (rd_fresh _ _ _ _ _ _ rfl rfl) (vi_one _) (by unfold maxLen; omega) (by omega) (by simp; omega) ?_)
  intro v4 w4 hown4 hg4
  have e4 : zs.map VI ++ [VI (-77), VI (-78)] = (zs ++ [-77, -78]).map VI := by simp
  rw [e4] at hown4
  obtain ⟨A4, cap4, rfl, hc4, hm4, _⟩ := own_form hown4
  have Hown4 := Lib.hid hown4
  have Hb4 := Lib.hid ((Hb1.out.alloc hs1 (.cells #[.int .i64 (-77), .int .i64 (-78)] 3)).grown hg4 (by simp; omega) fun k hk => (Hown1.out.lt k hk).1)
  clear hown4 hg4
  go_wp2_with fail
  go_ret
  exact ⟨A4, cap4, rfl, Hown4.out, Hb4.out⟩
set_option maxHeartbeats 2000000 in
theorem lists_calls (A A' A2 A3 : Option Addr) (n cap B k cap' B' cap2 B2 cap3 B3 : Nat) (bs : List (BitVec 8)) (f : Int) (zs : List Int) (w : World) (hn : n = bs.length) (hm : n ≤ 1099511627776) (hk : k = zs.length) (hkm : k ≤ 1099511627776) (hkc : k ≤ cap') (hcm : cap' ≤ maxLen) (hkc3 : k ≤ cap3) (hcm3 : cap3 ≤ maxLen)
    (hB : B ≤ w.heap.size) (hB' : B' ≤ w.heap.size) (hB2 : B2 ≤ w.heap.size) (hB3 : B3 ≤ w.heap.size) (hr : Rd w B A (bs.map V8)) (hr' : Rd w B' A' (zs.map VI)) (hr2 : Rd w B2 A2 (bs.map V8)) (hr3 : Rd w B3 A3 (zs.map VI)) (hnil2 : A2 = none → n = 0 ∧ cap2 = 0)
    (hz : ∀ z ∈ zs, -9223372036854775808 ≤ z ∧ z ≤ 9223372036854775807) (hf : f ≤ 9223372036854775807) :
    Calls Try.prog 22 #[.slice A n cap, .int .i64 f, .slice A' k cap', .slice A2 n cap2, .slice A3 k cap3] w fun e w' => e = .returned (.bool true) ∧ Below w.heap.size w w' := by
  have Hn := Lib.hid hn; have Hk := Lib.hid hk; have Hr := Lib.hid hr; have Hr' := Lib.hid hr'; have Hr2 := Lib.hid hr2; have Hr3 := Lib.hid hr3; have Hnil2 := Lib.hid hnil2; have Hz := Lib.hid hz
  clear hn hk hr hr' hr2 hr3 hnil2 hz
  go_enter Try.func22, Try.ntmps22
  go_wp2_with fail
  refine (putList_calls A n cap B bs f A' k cap' B' zs w Hn.out hm Hk.out hkm hkc hcm hB hB' Hr.out Hr'.out Hz.out hf).mono ?_
  rintro e w1 ⟨A4, m4, cap4, rfl, hm4, hown4, hb1⟩
  have hs1 := hb1.size
  have Hb1 := Lib.hid hb1; have Hown4 := Lib.hid hown4; have Hm4 := Lib.hid hm4
  have he : 0 ≤ Vi.putE f zs ∧ Vi.putE f zs ≤ 100 := by rcases putE_cases f zs with h | h <;> rw [h] <;> decide
  obtain ⟨E, hE⟩ : ∃ E, E = Vi.putE f zs := ⟨_, rfl⟩
  rw [← hE] at he ⊢
  have HE := Lib.hid hE
  clear hb1 hown4 hm4 hE
  go_wp2_with fail
  refine (rputList_calls A2 n cap2 B2 bs f A3 k cap3 B3 zs w1 Hn.out hm Hnil2.out Hk.out hkm hkc3 hcm3 (by omega) (by omega) (Hr2.out.below Hb1.out hB2) (Hr3.out.below Hb1.out hB3) Hz.out hf).mono ?_
  rintro e w2 ⟨A5, m5, cap5, rfl, hm5, hown5, hb2⟩
  rw [← HE.out]
  have Hb2 := Lib.hid (Hb1.out.trans (hb2.mono hs1)); have Hown45 := Lib.hid (own_below Hown4.out hb2 (Nat.le_refl _)); have Hown5 := Lib.hid hown5; have Hm5 := Lib.hid hm5
  clear hb2 hown5 hm5
  go_wp2_with fail
  refine (same_calls A4 A5 m4 cap4 m5 cap5 _ _ _ _ w2 Hm4.out Hm5.out (fun h => (own_nil Hown45.out h).1) (fun h => (own_nil Hown5.out h).1) (own_rd Hown45.out) (own_rd Hown5.out)).mono ?_
  rintro e w' ⟨rfl, rfl⟩
  rw [decide_eq_true rfl]
  go_wp2_with (go_at_call 30; refine (num_calls _ _ he.1 he.2).mono ?_; rintro e w' ⟨rfl, rfl⟩)
  go_ret
  exact ⟨by simp, Hb2.out⟩
theorem rem_k (a : Int) (k : Nat) (hk : k ≤ 65536) (h0 : k ≠ 0) : ∃ T : Nat, T < k ∧ (wrap64 (a.tmod (k : Int) + (k : Int))).tmod (k : Int) = (T : Int) := by
  have h1 := Int.tmod_lt_of_pos a (show (0 : Int) < (k : Int) by omega)
  have h2 := Int.lt_tmod_of_pos a (show (0 : Int) < (k : Int) by omega)
  generalize a.tmod (k : Int) = r at *
  have e : wrap64 (r + (k : Int)) = r + (k : Int) := by unfold wrap64; omega
  rw [e]
  have h3 := Int.tmod_nonneg (k : Int) (show 0 ≤ r + (k : Int) by omega)
  have h4 := Int.tmod_lt_of_pos (r + (k : Int)) (show (0 : Int) < (k : Int) by omega)
  exact ⟨((r + (k : Int)).tmod (k : Int)).toNat, by omega, by omega⟩
theorem ki_keep {W w' w'' : World} {B : Nat} (h : (True ∧ True) ∧ Below B W w') (hb : Below B w' w'') : (True ∧ True) ∧ Below B W w'' := ⟨⟨trivial, trivial⟩, h.2.trans hb⟩
set_option maxHeartbeats 4000000 in
set_option maxRecDepth 20000 in
theorem law_lists (A : Option Addr) (n cap : Nat) (bs : List (BitVec 8)) (f : Int) (A' : Option Addr) (k cap' : Nat) (zs : List Int) (at0 tz : Int) (w : World) (ha : In8 w A n cap bs) (hfw : (Lit.int .i64 f).wf = true) (ha' : InI w A' k cap' zs) (haw : (Lit.int .i64 at0).wf = true) (htw : (Lit.int .i64 tz).wf = true) :
    Calls Try.prog 4 #[.slice A n cap, .int .i64 f, .slice A' k cap', .int .i64 at0, .int .i64 tz] w fun e w' => e = .returned (.bool true) ∧ Below w.heap.size w w' := by
  obtain ⟨hn, hc, hcm, hnil, hr⟩ := ha
  obtain ⟨hk, hkc, hkm, hknil, hkr, hz⟩ := ha'
  have hfb := bounds_i64 hfw
  have htb := bounds_i64 htw
  have Hn := Lib.hid hn; have Hnil := Lib.hid hnil; have Hr := Lib.hid hr
  have Hk := Lib.hid hk; have Hkr := Lib.hid hkr; have Hz := Lib.hid hz; have Hkm := Lib.hid hkm
  have Htb := Lib.hid htb
  clear hn hnil hr hc hcm hk hkr hz hknil hfw haw htw hkm htb
  go_enter Try.func4, Try.ntmps4
  go_wp2_with fail
  refine (first_calls w).mono ?_
  rintro e w1 ⟨rfl, hb1⟩
  have hs1 := hb1.size
  have Hb1 := Lib.hid hb1
  clear hb1
  by_cases hbig : n ≤ 65536
  · have hbi : ¬ (65536 : Int) < (n : Int) := by omega
    by_cases hbigk : k ≤ 65536
    · have hbk : ¬ (65536 : Int) < (k : Int) := by omega
      go_wp2_with fail
      refine (room_calls A n cap w.heap.size bs w1 Hn.out (by omega) Hnil.out hs1 (Hr.out.below Hb1.out (Nat.le_refl _))).mono ?_
      rintro e w2 ⟨A2, cap2, rfl, hown2, hb2⟩
      have hs2 := hb2.size
      have Hb2 := Lib.hid (Hb1.out.trans (hb2.mono hs1))
      obtain ⟨p1, p2⟩ := own_cap hown2
      obtain ⟨g, rfl⟩ : ∃ g, A2 = some ⟨g, 0, none⟩ := by
        rcases hown2.2 with ⟨_, h⟩ | ⟨g, _, _, h, _⟩
        · omega
        · injection h with h; exact ⟨g, h⟩
      have Hown2 := Lib.hid hown2
      obtain ⟨N, hN⟩ : ∃ N, N = n + 3 := ⟨_, rfl⟩
      rw [← hN] at p1 Hown2 ⊢
      have q1 : (n : Int) ≤ (N : Int) := by omega
      have q2 : (N : Int) ≤ (cap2 : Int) := by omega
      have HN := Lib.hid hN
      clear hown2 hb2 hN
      unfold maxLen at p2
      go_wp2_with fail
      refine (more_calls A' k cap' w.heap.size zs w2 Hk.out (by omega) Hb2.out.size (Hkr.out.below Hb2.out (Nat.le_refl _))).mono ?_
      rintro e w3 ⟨A3, cap3, rfl, hown3, hb3⟩
      have hs3 := hb3.size
      have Hb3 := Lib.hid (Hb2.out.trans (hb3.mono (by omega)))
      obtain ⟨p3, p4⟩ := own_cap hown3
      obtain ⟨g3, rfl⟩ : ∃ g, A3 = some ⟨g, 0, none⟩ := by
        rcases hown3.2 with ⟨_, h⟩ | ⟨g, _, _, h, _⟩
        · omega
        · injection h with h; exact ⟨g, h⟩
      have Hown3 := Lib.hid hown3
      have Hown23 := Lib.hid (own_below Hown2.out hb3 (Nat.le_refl _))
      obtain ⟨K, hK⟩ : ∃ K, K = k + 2 := ⟨_, rfl⟩
      rw [← hK] at p3 Hown3 ⊢
      have q3 : (k : Int) ≤ (K : Int) := by omega
      have q4 : (K : Int) ≤ (cap3 : Int) := by omega
      have hkK : k ≤ K := by omega
      have HK := Lib.hid hK
      clear hown3 hb3 hK Hown2
      unfold maxLen at p4
      have Hzs := Lib.hid (show Rd w3 w3.heap.size (some ⟨g3, 0, none⟩) (zs.map VI) from fun k' v hv => own_rd Hown3.out k' v (by
        rw [List.map_append, List.getElem?_append_left (List.getElem?_eq_some_iff.1 hv).1]; exact hv))
      have Hbs := Lib.hid (rd_prefix (own_rd Hown23.out))
      go_wp2_with fail
      have hst : (True ∧ True) ∧ Below w3.heap.size w3 w3 := ⟨⟨trivial, trivial⟩, Below.refl _ _⟩
      go_region_held3 (fun w' => (True ∧ True) ∧ Below w3.heap.size w3 w')
        ((rename (_ ∧ _) ∧ Below _ _ _ => hS; first
          | exact hS
          | exact ki_keep hS (below_drewN (Below.refl _ _) 1)
          | exact ki_keep hS (Below.mono (by assumption) hS.2.size)))
        ((go_at_call 22; rename (_ ∧ _) ∧ Below _ _ _ => hS; refine (lists_calls (some ⟨g, 0, none⟩) (some ⟨g3, 0, none⟩) A A' n N w3.heap.size k K w3.heap.size cap w.heap.size cap' w.heap.size bs f zs _ Hn.out (by omega) Hk.out (by omega) hkK (by unfold maxLen; omega) hkc Hkm.out hS.2.size hS.2.size (Nat.le_trans Hb3.out.size hS.2.size) (Nat.le_trans Hb3.out.size hS.2.size) (Hbs.out.below hS.2 (Nat.le_refl _)) (Hzs.out.below hS.2 (Nat.le_refl _)) ((Hr.out.below Hb3.out (Nat.le_refl _)).below hS.2 Hb3.out.size) ((Hkr.out.below Hb3.out (Nat.le_refl _)).below hS.2 Hb3.out.size) Hnil.out Hz.out hfb.2).mono ?_; rintro e w' ⟨rfl, hb⟩))
      rename (_ ∧ _) ∧ Below _ _ w' => hF
      have Hbb4 := Lib.hid hF.2
      have hs4 := hF.2.size
      clear hF hS hst hb
      have Hb4 := Lib.hid (Hb3.out.trans (Hbb4.out.mono (by omega)))
      have Hown24 := Lib.hid (own_below Hown23.out Hbb4.out (Nat.le_refl _))
      have Hown34 := Lib.hid (own_below Hown3.out Hbb4.out (Nat.le_refl _))
      clear Hown23 Hown3 Hbb4 Hzs Hbs
      generalize w' = w4 at *
      go_wp2_with fail
      refine (room_calls A n cap w.heap.size bs w4 Hn.out (by omega) Hnil.out Hb4.out.size (Hr.out.below Hb4.out (Nat.le_refl _))).mono ?_
      rintro e w5 ⟨A5, cap5, rfl, hown5, hb5⟩
      have hs5 := hb5.size
      have Hb5 := Lib.hid (Hb4.out.trans (hb5.mono (by omega)))
      have Hown25 := Lib.hid (own_below Hown24.out hb5 (Nat.le_refl _))
      have Hown35 := Lib.hid (own_below Hown34.out hb5 (Nat.le_refl _))
      rw [← HN.out] at hown5 ⊢
      have Hown5 := Lib.hid hown5
      clear hown5 hb5 Hown24 Hown34
      go_wp2_with fail
      refine (same_calls (some ⟨g, 0, none⟩) A5 N cap2 N cap5 _ _ (bs ++ rm3) (bs ++ rm3) w5 (by rw [HN.out, List.length_append, ← Hn.out]; rfl) (by rw [HN.out, List.length_append, ← Hn.out]; rfl) (by intro h; cases h) (fun h => (own_nil Hown5.out h).1) (own_rd Hown25.out) (own_rd Hown5.out)).mono ?_
      rintro e w' ⟨rfl, rfl⟩
      rw [decide_eq_true rfl]
      clear Hown5
      go_wp2_with fail
      refine (more_calls A' k cap' w.heap.size zs w5 Hk.out (by omega) Hb5.out.size (Hkr.out.below Hb5.out (Nat.le_refl _))).mono ?_
      rintro e w6 ⟨A6, cap6, rfl, hown6, hb6⟩
      have hs6 := hb6.size
      have Hb6 := Lib.hid (Hb5.out.trans (hb6.mono (by omega)))
      have Hown26 := Lib.hid (own_below Hown25.out hb6 (Nat.le_refl _))
      have Hown36 := Lib.hid (own_below Hown35.out hb6 (Nat.le_refl _))
      rw [← HK.out] at hown6 ⊢
      obtain ⟨p5, p6⟩ := own_cap hown6
      have Hown6 := Lib.hid hown6
      clear hown6 hb6 Hown25 Hown35
      go_wp2_with fail
      refine (sameI_calls (some ⟨g3, 0, none⟩) A6 K cap3 K cap6 _ _ (zs ++ [-77, -78]) (zs ++ [-77, -78]) w6 (by rw [HK.out, List.length_append, ← Hk.out]; rfl) (by rw [HK.out, List.length_append, ← Hk.out]; rfl) p3 p5 (by unfold maxLen; omega) p6 (own_rd Hown36.out) (own_rd Hown6.out)).mono ?_
      rintro e w7 ⟨rfl, k7, rfl⟩
      rw [decide_eq_true rfl]
      have Hb7 := Lib.hid (below_drewN Hb6.out k7)
      have Hown27 := Lib.hid (own_below Hown26.out (below_drewN (Below.refl _ _) k7) (Nat.le_refl _))
      have Hown37 := Lib.hid (own_below Hown36.out (below_drewN (Below.refl _ _) k7) (Nat.le_refl _))
      clear Hown26 Hown36 Hown6 Hb6
      generalize w6.drewN k7 = w7 at *
      by_cases hk0 : k = 0
      · have hkz : ((k : Int) == 0) = true := by rw [hk0]; rfl
        go_wp2_with fail
        go_ret
        exact ⟨rfl, Hb7.out⟩
      · have hkz : ((k : Int) == 0) = false := by rw [beq_eq_false_iff_ne]; omega
        obtain ⟨T, hT, hTe⟩ := rem_k at0 k hbigk hk0
        have l1 : (T : Int) < (K : Int) := by omega
        have hTK : T < K := by omega
        obtain ⟨z, hz1⟩ : ∃ z, (zs ++ [-77, -78])[T]? = some z := ⟨(zs ++ [-77, -78])[T]'(by rw [List.length_append, ← Hk.out]; exact Nat.lt_of_lt_of_le hT (Nat.le_add_right _ _)), List.getElem?_eq_getElem _⟩
        have hc := Hown37.out.cellAt T (by omega)
        rw [List.getElem?_map, hz1] at hc
        have hc : w7.cell? ⟨g3, T, none⟩ = some (.int .i64 z) := hc
        have hf := Hown37.out.frozenAt T
        have hg3 := (Hown37.out.lt g3 rfl).1
        have hbs : Below w.heap.size w7 (w7.setCell ⟨g3, T, none⟩ (.int .i64 tz)) := (Below.refl _ _).setCell (show w.heap.size ≤ g3 by omega) _
        have Hb8 := Lib.hid (Hb7.out.trans hbs)
        have HownM := Lib.hid (show (w7.setCell ⟨g3, T, none⟩ (.int .i64 tz)).ownsRow w2.heap.size 3 1 (.slice (some ⟨g3, 0, none⟩) K cap3) K ((zs.set T tz ++ [-77, -78]).map VI) by
          have := (Hown37.out.stored T (.int .i64 tz)).1
          rw [show (zs.set T tz ++ [-77, -78]) = (zs ++ [-77, -78]).set T tz by rw [List.set_append_left _ _ (by rw [← Hk.out]; exact hT)], List.map_set]; exact this)
        have HownB := Lib.hid (show (w7.setCell ⟨g3, T, none⟩ (.int .i64 tz)).ownsRow w1.heap.size 5 1 (.slice (some ⟨g, 0, none⟩) N cap2) N ((bs ++ rm3).map V8) from by
          have h37 := Hown37.out
          rcases h37.2 with ⟨h, _⟩ | ⟨b, _, cur, h, _, hh, _⟩
          · cases h
          · injection h with h; injection h with h; injection h with h _ _; subst h
            exact own_type (cs := []) Hown27.out hh (by decide) (Upd.setCell w7 T _))
        clear hz1 Hown27 Hown37 hbs hk0
        go_wp2_with fail
        generalize w7.setCell ⟨g3, T, none⟩ (.int .i64 tz) = w8 at *
        have Hz2 := Lib.hid (show ∀ z ∈ zs.set T tz, -9223372036854775808 ≤ z ∧ z ≤ 9223372036854775807 from fun z hz => by
          rcases List.mem_or_eq_of_mem_set hz with h | h
          · exact Hz.out z h
          · rw [h]; exact Htb.out)
        have Hk2 := Lib.hid (show k = (zs.set T tz).length by rw [List.length_set]; exact Hk.out)
        generalize zs.set T tz = ys at *
        have Hys := Lib.hid (show Rd w8 w8.heap.size (some ⟨g3, 0, none⟩) (ys.map VI) from fun k' v hv => own_rd HownM.out k' v (by
          rw [List.map_append, List.getElem?_append_left (List.getElem?_eq_some_iff.1 hv).1]; exact hv))
        have hs8 := Hb8.out.size
        clear hc hf hTe hkz
        refine (ints_calls (some ⟨g3, 0, none⟩) k cap3 w8.heap.size ys w8 Hk2.out (by omega) (Nat.le_refl _) Hys.out).mono ?_
        rintro e w9 ⟨A9, cap9, rfl, hown9, hb9⟩
        have hs9 := hb9.size
        obtain ⟨p7, p8⟩ := own_cap hown9
        have Hb9 := Lib.hid (Hb8.out.trans (hb9.mono hs8))
        have HysM := Lib.hid ((own_rd (own_below HownM.out hb9 (Nat.le_refl _))))
        have Hys9 := Lib.hid (Hys.out.below hb9 (Nat.le_refl _))
        have Hbs9 := Lib.hid (rd_prefix (own_rd (own_below HownB.out hb9 (Nat.le_refl _))))
        have Hown9 := Lib.hid hown9
        clear hown9 hb9 HownM HownB Hys HysM
        go_wp2_with fail
        have hst : (True ∧ True) ∧ Below w9.heap.size w9 w9 := ⟨⟨trivial, trivial⟩, Below.refl _ _⟩
        go_region_held3 (fun w' => (True ∧ True) ∧ Below w9.heap.size w9 w')
          ((rename (_ ∧ _) ∧ Below _ _ _ => hS; first
            | exact hS
            | exact ki_keep hS (below_drewN (Below.refl _ _) 1)
            | exact ki_keep hS (Below.mono (by assumption) hS.2.size)))
          ((go_at_call 22; rename (_ ∧ _) ∧ Below _ _ _ => hS; refine (lists_calls (some ⟨g, 0, none⟩) (some ⟨g3, 0, none⟩) A A9 n N w9.heap.size k K w8.heap.size cap w.heap.size cap9 w9.heap.size bs f ys _ Hn.out (by omega) Hk2.out (by omega) hkK (by unfold maxLen; omega) p7 p8 hS.2.size (Nat.le_trans hs9 hS.2.size) (Nat.le_trans Hb9.out.size hS.2.size) hS.2.size (Hbs9.out.below hS.2 (Nat.le_refl _)) (Hys9.out.below hS.2 hs9) ((Hr.out.below Hb9.out (Nat.le_refl _)).below hS.2 Hb9.out.size) ((own_rd Hown9.out).below hS.2 (Nat.le_refl _)) Hnil.out Hz2.out hfb.2).mono ?_; rintro e w' ⟨rfl, hb⟩))
        rename (_ ∧ _) ∧ Below _ _ w' => hF
        have Hbb4 := Lib.hid hF.2
        clear hF hS hst hb
        go_wp2_with fail
        go_ret
        exact ⟨rfl, Hb9.out.trans (Hbb4.out.mono Hb9.out.size)⟩
    · have hbk : (65536 : Int) < (k : Int) := by omega
      go_wp2_with fail
      go_ret
      exact ⟨rfl, Hb1.out⟩
  · have hbi : (65536 : Int) < (n : Int) := by omega
    go_wp2_with fail
    go_ret
    exact ⟨rfl, Hb1.out⟩
end Go.Proofs.Ytkohakogknodeaa
