/- VarintBroken: the walk -/
import Derived.Test.YtkohakogknodeaaVOps
namespace Go.Proofs.Ytkohakogknodeaa
open Go.ChangeShapes Go.WideShapes Go.ChangeAt Go.RowKit
set_option linter.unusedSimpArgs false
set_option linter.unusedVariables false
theorem rem4 (x : Int) : ∃ T : Int, (wrap64 (x.tmod 4 + 4)).tmod 4 = T ∧ (T = 0 ∨ T = 1 ∨ T = 2 ∨ T = 3) := by
  have h1 := Int.tmod_lt_of_pos x (show (0 : Int) < 4 by decide)
  have h2 := Int.lt_tmod_of_pos x (show (0 : Int) < 4 by decide)
  have e : wrap64 (x.tmod 4 + 4) = x.tmod 4 + 4 := IntWalk.wrap64_in _ (by omega)
  rw [e]
  have h3 := Int.tmod_lt_of_pos (x.tmod 4 + 4) (show (0 : Int) < 4 by decide)
  have h4 := Int.tmod_nonneg 4 (show 0 ≤ x.tmod 4 + 4 by omega)
  exact ⟨_, rfl, by omega⟩
/-- How the bytes behind the five are broken. -/
def BadD (D : List (BitVec 8)) (E : Int) : Prop := E = 13 ∨ (E = Vi.numE D ∧ (E = 10 ∨ E = 11 ∨ E = 12))
theorem bad11 (b : List (BitVec 8)) : BadD (128#8 :: b) 11 := Or.inr ⟨rfl, Or.inr (Or.inl rfl)⟩
theorem bad12 (b : List (BitVec 8)) : BadD (List.replicate 9 255#8 ++ b) 12 := by
  refine Or.inr ⟨?_, Or.inr (Or.inr rfl)⟩
  unfold Vi.numE
  have h : 9 ≤ Vi.lead (List.replicate 9 255#8 ++ b) := Vi.lead_all _ 9 (fun j hj => by
    refine ⟨255#8, ?_, by decide⟩
    rw [List.getElem?_append_left (by simpa using hj)]
    exact List.getElem?_eq_some_iff.2 ⟨by simpa using hj, List.getElem_replicate ..⟩)
  rw [if_neg (by simp [List.replicate]), if_pos h]
theorem bad10 : BadD [255#8, 129#8] 10 := Or.inr ⟨by decide, Or.inl rfl⟩
theorem five_num (D : List (BitVec 8)) : Vi.numE (5#8 :: D) = 0 ∧ Vi.numX (5#8 :: D) = 5 ∧ Vi.numN (5#8 :: D) = 1 := by
  have e : Vi.form 5 = [5#8] := by decide
  have l : Vi.len 5 = 1 := by decide
  have := Vi.form_num 5 D (by decide)
  rw [e, l] at this
  exact this
set_option maxHeartbeats 4000000 in
set_option maxRecDepth 20000 in
theorem law_broken (A : Option Addr) (n cap : Nat) (bs : List (BitVec 8)) (how : Int) (A' : Option Addr) (k cap' : Nat) (os : OpA) (w : World) (ha : In8 w A n cap bs) (hw : (Lit.int .i64 how).wf = true) (ho : InO w A' k cap' os) :
    Calls Try.prog 12 #[.slice A n cap, .int .i64 how, .slice A' k cap'] w fun e w' => e = .returned (.bool true) ∧ Below w.heap.size w w' := by
  obtain ⟨i0, hi, hz0, hz1, hz2⟩ := info_parts infoU8
  have Hi := Lib.hid hi; clear hi
  obtain ⟨hn, hc, hcm, hnil, hr⟩ := ha
  obtain ⟨hk, hkc, hkm, hknil, hkr⟩ := ho
  have Hn := Lib.hid hn; have Hr := Lib.hid hr; have Hnil := Lib.hid hnil; have Hk := Lib.hid hk; have Hkr := Lib.hid hkr
  unfold maxLen at hcm hkm
  obtain ⟨T, hT, hT4⟩ := rem4 how
  clear hn hr hnil hk hkr hknil hw
  go_enter Try.func12, Try.ntmps12
  go_wp2_with fail
  refine (first_calls w).mono ?_
  rintro e w1 ⟨rfl, hb1⟩
  have hs1 := hb1.size
  have Hb1 := Lib.hid hb1
  clear hb1
  by_cases hbig : n ≤ 65536
  · have hbi : ¬ (65536 : Int) < (n : Int) := by omega
    go_upto_block 0 with fail
    clear hT
    obtain ⟨w2, hw2⟩ : ∃ x, x = w1.alloc (.cells #[.int .u8 5] 5) := ⟨_, rfl⟩
    rw [← hw2]
    have Hown2 := Lib.hid (show w2.ownsRow w1.heap.size 5 1 (.slice (some ⟨w1.heap.size, 0, none⟩) 1 1) 1 ([5#8].map V8) by rw [hw2]; exact own_lit w1 w1.heap.size 5 #[.int .u8 5] 1 (Nat.le_refl _) rfl (by decide))
    have hs2 : w1.heap.size < w2.heap.size := by rw [hw2]; simp
    have Hb2 := Lib.hid (show Below w.heap.size w w2 by rw [hw2]; exact Hb1.out.alloc hs1 _)
    clear hw2
    go_cut [8, 9] (fun s v w' => ∃ (A3 : Option Addr) (n3 cap3 : Nat) (D : List (BitVec 8)) (E : Int), s = .slice A3 n3 cap3 ∧ v = .int .i64 E ∧ n3 = (5#8 :: D).length ∧ n3 ≤ 70000 ∧ BadD D E ∧ w'.ownsRow w1.heap.size 5 1 (.slice A3 n3 cap3) n3 ((5#8 :: D).map V8) ∧ Below w.heap.size w w')
    case first =>
      have Hr2 := Lib.hid (Hr.out.below Hb2.out (Nat.le_refl _))
      have Hl := Lib.hid (fun (cs : List (BitVec 8)) => own_below Hown2.out ((Below.refl w2.heap.size w2).alloc (Nat.le_refl _) (.cells (cs.map V8).toArray 5)) (Nat.le_refl _))
      rcases hT4 with rfl | rfl | rfl | rfl
      · go_wp2_with (at_builtin; refine wpList_append_rd rfl _ _ 22 rfl w1.heap.size 5 i0 _ 1 descU8s Hi.out hz0 hz1 hz2 rfl _ 1 ([5#8].map V8) rfl (Hl.out [128#8]) _ (some ⟨w2.heap.size, 0, none⟩) 1 1 (List.map V8 [128#8]) rfl rfl (by intro h; cases h) (rd_fresh _ _ _ _ _ _ rfl rfl) (v8_one _) (by unfold maxLen; omega) (by omega) (by simp; omega) ?_)
        intro v4 w4 hown4 hg4
        have hs4 : w2.heap.size ≤ w4.heap.size := Nat.le_trans (by simp) hg4.size
        have hb4 := below_own (Hb2.out.alloc (show w.heap.size ≤ w2.heap.size by omega) _) (Hl.out [128#8]) hg4 hs1 (by simp; omega)
        obtain ⟨A4, cap4, rfl, hc4, hm4, _⟩ := own_form hown4
        have Hb4 := Lib.hid hb4; have Hown4 := Lib.hid hown4
        clear hb4 hown4 hg4
        go_wp2_with (at_builtin; refine wpList_append_rd rfl _ _ 22 rfl w1.heap.size 5 i0 _ 1 descU8s Hi.out hz0 hz1 hz2 rfl _ 2 (List.map V8 (5#8 :: [128#8])) rfl Hown4.out _ A n cap (bs.map V8) rfl (by rw [List.length_map]; exact Hn.out) Hnil.out (Hr.out.below Hb4.out (Nat.le_refl _)) (v8_one _) (by unfold maxLen; omega) (by omega) (by omega) ?_)
        intro v5 w5 hown5 hg5
        have hb5 := below_own Hb4.out Hown4.out hg5 hs1 (by omega)
        obtain ⟨A5, cap5, rfl, hc5, hm5, _⟩ := own_form hown5
        have Hb5 := Lib.hid hb5; have Hown5 := Lib.hid hown5
        clear hb5 hown5 hg5
        go_wp2_with fail
        go_meet
        exact ⟨A5, 2 + n, cap5, 128#8 :: bs, 11, rfl, rfl, by simp [← Hn.out]; omega, by omega, bad11 bs, by simpa using Hown5.out, Hb5.out⟩
      · go_wp2_with (at_builtin; refine wpList_append_rd rfl _ _ 22 rfl w1.heap.size 5 i0 _ 1 descU8s Hi.out hz0 hz1 hz2 rfl _ 1 ([5#8].map V8) rfl (Hl.out [255#8, 255#8, 255#8, 255#8, 255#8, 255#8, 255#8, 255#8, 255#8]) _ (some ⟨w2.heap.size, 0, none⟩) 9 9 (List.map V8 [255#8, 255#8, 255#8, 255#8, 255#8, 255#8, 255#8, 255#8, 255#8]) rfl rfl (by intro h; cases h) (rd_fresh _ _ _ _ _ _ rfl rfl) (v8_one _) (by unfold maxLen; omega) (by omega) (by simp; omega) ?_)
        intro v4 w4 hown4 hg4
        have hs4 : w2.heap.size ≤ w4.heap.size := Nat.le_trans (by simp) hg4.size
        have hb4 := below_own (Hb2.out.alloc (show w.heap.size ≤ w2.heap.size by omega) _) (Hl.out [255#8, 255#8, 255#8, 255#8, 255#8, 255#8, 255#8, 255#8, 255#8]) hg4 hs1 (by simp; omega)
        obtain ⟨A4, cap4, rfl, hc4, hm4, _⟩ := own_form hown4
        have Hb4 := Lib.hid hb4; have Hown4 := Lib.hid hown4
        clear hb4 hown4 hg4
        go_wp2_with (at_builtin; refine wpList_append_rd rfl _ _ 22 rfl w1.heap.size 5 i0 _ 1 descU8s Hi.out hz0 hz1 hz2 rfl _ 10 (List.map V8 (5#8 :: [255#8, 255#8, 255#8, 255#8, 255#8, 255#8, 255#8, 255#8, 255#8])) rfl Hown4.out _ A n cap (bs.map V8) rfl (by rw [List.length_map]; exact Hn.out) Hnil.out (Hr.out.below Hb4.out (Nat.le_refl _)) (v8_one _) (by unfold maxLen; omega) (by omega) (by omega) ?_)
        intro v5 w5 hown5 hg5
        have hb5 := below_own Hb4.out Hown4.out hg5 hs1 (by omega)
        obtain ⟨A5, cap5, rfl, hc5, hm5, _⟩ := own_form hown5
        have Hb5 := Lib.hid hb5; have Hown5 := Lib.hid hown5
        clear hb5 hown5 hg5
        go_wp2_with fail
        go_meet
        exact ⟨A5, 10 + n, cap5, List.replicate 9 255#8 ++ bs, 12, rfl, rfl, by simp [← Hn.out]; omega, by omega, bad12 bs, by simpa using Hown5.out, Hb5.out⟩
      · go_wp2_with (at_builtin; refine wpList_append_rd rfl _ _ 22 rfl w1.heap.size 5 i0 _ 1 descU8s Hi.out hz0 hz1 hz2 rfl _ 1 ([5#8].map V8) rfl (Hl.out [255#8, 129#8]) _ (some ⟨w2.heap.size, 0, none⟩) 2 2 (List.map V8 [255#8, 129#8]) rfl rfl (by intro h; cases h) (rd_fresh _ _ _ _ _ _ rfl rfl) (v8_one _) (by unfold maxLen; omega) (by omega) (by simp; omega) ?_)
        intro v4 w4 hown4 hg4
        have hs4 : w2.heap.size ≤ w4.heap.size := Nat.le_trans (by simp) hg4.size
        have hb4 := below_own (Hb2.out.alloc (show w.heap.size ≤ w2.heap.size by omega) _) (Hl.out [255#8, 129#8]) hg4 hs1 (by simp; omega)
        obtain ⟨A4, cap4, rfl, hc4, hm4, _⟩ := own_form hown4
        have Hb4 := Lib.hid hb4; have Hown4 := Lib.hid hown4
        clear hb4 hown4 hg4
        go_wp2_with fail
        go_meet
        exact ⟨A4, 3, cap4, [255#8, 129#8], 10, rfl, rfl, rfl, by omega, bad10, by simpa using Hown4.out, Hb4.out⟩
      · go_wp2_with (at_builtin; refine wpList_append_rd rfl _ _ 22 rfl w1.heap.size 5 i0 _ 1 descU8s Hi.out hz0 hz1 hz2 rfl _ 1 ([5#8].map V8) rfl (Hl.out [1#8]) _ (some ⟨w2.heap.size, 0, none⟩) 1 1 (List.map V8 [1#8]) rfl rfl (by intro h; cases h) (rd_fresh _ _ _ _ _ _ rfl rfl) (v8_one _) (by unfold maxLen; omega) (by omega) (by simp; omega) ?_)
        intro v4 w4 hown4 hg4
        have hs4 : w2.heap.size ≤ w4.heap.size := Nat.le_trans (by simp) hg4.size
        have hb4 := below_own (Hb2.out.alloc (show w.heap.size ≤ w2.heap.size by omega) _) (Hl.out [1#8]) hg4 hs1 (by simp; omega)
        obtain ⟨A4, cap4, rfl, hc4, hm4, _⟩ := own_form hown4
        have Hb4 := Lib.hid hb4; have Hown4 := Lib.hid hown4
        clear hb4 hown4 hg4
        go_wp2_with (at_builtin; refine wpList_append_rd rfl _ _ 22 rfl w1.heap.size 5 i0 _ 1 descU8s Hi.out hz0 hz1 hz2 rfl _ 2 (List.map V8 (5#8 :: [1#8])) rfl Hown4.out _ A n cap (bs.map V8) rfl (by rw [List.length_map]; exact Hn.out) Hnil.out (Hr.out.below Hb4.out (Nat.le_refl _)) (v8_one _) (by unfold maxLen; omega) (by omega) (by omega) ?_)
        intro v5 w5 hown5 hg5
        have hb5 := below_own Hb4.out Hown4.out hg5 hs1 (by omega)
        obtain ⟨A5, cap5, rfl, hc5, hm5, _⟩ := own_form hown5
        have Hb5 := Lib.hid hb5; have Hown5 := Lib.hid hown5
        clear hb5 hown5 hg5
        go_wp2_with fail
        go_meet
        exact ⟨A5, 2 + n, cap5, 1#8 :: bs, 13, rfl, rfl, by simp [← Hn.out]; omega, by omega, Or.inl rfl, by simpa using Hown5.out, Hb5.out⟩
    case rest =>
      obtain ⟨A3, n3, cap3, D, E, rfl, rfl, hn3, hn3b, hbad, hown3, hb3⟩ := hcut
      have hs3 := hb3.size
      have Hb3 := Lib.hid hb3; have Hn3 := Lib.hid hn3; have Hown3 := Lib.hid hown3; have Hbad := Lib.hid hbad
      clear hb3 hn3 hown3 hbad
      obtain ⟨full, hfull⟩ : ∃ x, x = 5#8 :: D := ⟨_, rfl⟩
      obtain ⟨e1, e2, e3⟩ := five_num D
      have e4 : full.drop 1 = D := by rw [hfull]; rfl
      rw [← hfull] at e1 e2 e3 Hn3 Hown3
      have E1 := Lib.hid e1; have E2 := Lib.hid e2; have E3 := Lib.hid e3; have E4 := Lib.hid e4
      clear hfull e1 e2 e3 e4 hT4
      go_wp2_with fail
      refine (newReader_calls A3 n3 cap3 wc.heap.size full wc Hn3.out (by omega) (Nat.le_refl _) (own_rd Hown3.out)).mono ?_
      rintro e w4 ⟨g, A4, cap4, rfl, hr4, hb4⟩
      have hs4 := hb4.size
      have Hb4 := Lib.hid (Hb3.out.trans (hb4.mono (by omega))); have Hr4 := Lib.hid hr4
      clear hb4 hr4
      go_wp2_with fail
      refine (int_calls g A4 n3 cap4 0 _ full 0 w4 Hr4.out (by omega)).mono ?_
      rintro e w5 ⟨rfl, hu5, hr5⟩
      obtain ⟨s1, s2, s3⟩ := Vi.iX_zero full 0
      rw [List.drop_zero, Nat.zero_add, E3.out] at s2
      rw [List.drop_zero, E2.out] at s1
      rw [List.drop_zero, E1.out] at s3
      rw [s2, s3] at hr5
      rw [s1]
      have hg5 : wc.heap.size ≤ g := hr5.2.2.2.2
      have Hb5 := Lib.hid (Hb4.out.trans (hu5.below (by omega) Hb4.out.size)); have Hr5 := Lib.hid hr5
      clear hu5 hr5 s1 s2 s3 Hr4 Hb4
      have hs5 := Hb5.out.size
      have q5 : (((5 : Nat) : Int) != 5) = false := rfl
      go_upto_if 68 with fail
      go_cut [] (fun w' => RdrIs 68 w' wc.heap.size g A4 n3 cap4 full 1 E ∧ Below w.heap.size w w')
      case first =>
        by_cases hE : E = 13
        · subst hE
          go_wp2_with fail
          refine (List_calls g A4 n3 cap4 1 _ full 0 (-1) 9 w5 Hr5.out (by omega) (by decide) (by decide) (by decide)).mono ?_
          rintro e w6 ⟨hu6, A6, n6, cap6, rfl, hn6, hown6, hr6⟩
          obtain ⟨s1, s2, s3⟩ := i16s full 1 (-1) 9
          have s4 : Vi.rdL (-1) 9 (full.drop 1) = ([], 0, 13) := by unfold Vi.rdL; rw [if_pos (by decide)]
          rw [s2, s3, s4] at hr6
          have Hr6 := Lib.hid hr6
          have Hb6 := Lib.hid (Hb5.out.trans (hu6.below (by omega) Hb5.out.size))
          clear hu6 hn6 hown6 hr6 s1 s2 s3 s4
          go_wp2_with fail
          go_meet
          exact ⟨Hr6.out, Hb6.out⟩
        · have hE2 : E = Vi.numE D ∧ (E = 10 ∨ E = 11 ∨ E = 12) := by
            rcases Hbad.out with h | h
            · exact absurd h hE
            · exact h
          have hb : (E == 13) = false := by rw [beq_eq_false_iff_ne]; exact hE
          have hne : Vi.numE D ≠ 0 := by omega
          have HE := Lib.hid hE2; have Hne := Lib.hid hne
          clear hE hE2 hne
          go_wp2_with fail
          refine (int_calls g A4 n3 cap4 1 _ full 0 w5 Hr5.out (by omega)).mono ?_
          rintro e w6 ⟨rfl, hu6, hr6⟩
          obtain ⟨s1, s2, s3⟩ := Vi.iX_zero full 1
          rw [E4.out, (Vi.num_err Hne.out).2] at s2
          rw [E4.out, ← HE.out.1] at s3
          rw [s2, s3] at hr6
          have Hr6 := Lib.hid hr6
          have Hb6 := Lib.hid (Hb5.out.trans (hu6.below (by omega) Hb5.out.size))
          clear hu6 hr6 s1 s2 s3
          go_wp2_with fail
          go_meet
          exact ⟨Hr6.out, Hb6.out⟩
      case rest =>
        obtain ⟨hr6, hb6⟩ := hcut
        have hE : E ≠ 0 ∧ 0 ≤ E ∧ E ≤ 100 := by
          rcases Hbad.out with h | ⟨_, h⟩ <;> omega
        have Hr6 := Lib.hid hr6; have Hb6 := Lib.hid hb6
        have Hlf := Lib.hid (show lft full 1 E = 0 from if_neg hE.1)
        have HE := Lib.hid hE.1
        have hE1 := hE.2.1; have hE2 := hE.2.2
        clear hr6 hb6 Hr5 Hb5 E1 E2 E3 E4 Hbad hE
        go_wp2_with fail
        go_loopw [11] (fun i wr => ∃ (a d : Nat), i = .int .i64 (a : Int) ∧ a ≤ k ∧ wr = wc.drewN d) (fun i _ => k - (intOf i).toNat)
        case atStart => exact ⟨0, 0, rfl, by omega, rfl⟩
        case round =>
          obtain ⟨a, d, rfl, ha, rfl⟩ := hrel
          have Hr7 := Lib.hid (RdrIs.below Hr6.out (below_drewN (Below.refl _ _) d))
          have Hb7 := Lib.hid (below_drewN Hb6.out d)
          have Hend := Lib.hid (show ∀ x y z : Nat, ∃ u, (((wc.drewN d).drewN x).drewN y).drewN z = wc.drewN u from fun x y z => by simp only [World.drewN_drewN]; exact ⟨_, rfl⟩)
          generalize wc.drewN d = wr at *
          by_cases hlt : a < k
          · have q1 : (a : Int) < (k : Int) := by omega
            by_cases hl2 : a < 2000
            · have q2 : (a : Int) < 2000 := by omega
              obtain ⟨q, hq⟩ : ∃ q, os[a]? = some q := ⟨os[a]'(by rw [← Hk.out]; omega), List.getElem?_eq_getElem _⟩
              obtain ⟨blk, off, rfl, hblk, c0, c1, c2, c3, qf, ql1, ql2⟩ := (Hkr.out.below Hb7.out (Nat.le_refl _)) a q hq
              obtain ⟨K, F, L, S⟩ := q
              simp only at c0 c1 c2 c3 qf ql1 ql2
              clear hq
              go_upto_if 88 with fail
              go_cut [7] (fun s w' => s = .bool true ∧ ∃ x, w' = wr.drewN x)
              case first =>
                by_cases hK : K = 2
                · subst hK
                  go_wp2_with fail
                  go_quiet ((go_at_call 35; exact quiet_list g A4 n3 cap4 1 _ _ full E _ _ _ Hr7.out HE.out))
                  go_wp2_with fail
                  go_meet
                  exact ⟨rfl, nq, rfl⟩
                · have hb : (K == 2) = false := by rw [beq_eq_false_iff_ne]; exact hK
                  clear hK
                  go_wp2_with fail
                  refine (int_broken g A4 n3 cap4 1 _ full E _ Hr7.out HE.out).mono ?_
                  rintro e w8 ⟨rfl, rfl⟩
                  go_wp2_with fail
                  go_meet
                  exact ⟨rfl, 0, rfl⟩
              case rest =>
                obtain ⟨rfl, x, rfl⟩ := hcut
                have Hr8 := Lib.hid (RdrIs.below Hr7.out (below_drewN (Below.refl _ _) x))
                go_wp2_with fail
                refine (err_calls g A4 n3 cap4 1 _ full E _ Hr8.out).mono ?_
                rintro e w8 ⟨rfl, y, rfl⟩
                have Hr9 := Lib.hid (RdrIs.below Hr8.out (below_drewN (Below.refl _ _) y))
                have Hend2 := Lib.hid (Hend.out x y)
                generalize (wr.drewN x).drewN y = w9 at *
                go_wp2_with (first
                  | (go_at_call 30; refine (num_calls _ _ hE1 hE2).mono ?_; rintro e w' ⟨rfl, rfl⟩)
                  | (go_at_call 33; refine (left_calls g A4 n3 cap4 1 _ full E _ Hr9.out (by omega)).mono ?_; rintro e w' ⟨rfl, z, rfl⟩; rw [Hlf.out]))
                obtain ⟨u, hu⟩ := Hend2.out z
                exact ⟨⟨a + 1, u, by congr 1, by omega, hu⟩, by simp [intOf]; omega⟩
            · have hl3 : ¬ (a : Int) < 2000 := by omega
              go_wp2_with fail
              refine (err_calls g A4 n3 cap4 1 _ full E wr Hr7.out).mono ?_
              rintro e w8 ⟨rfl, y, rfl⟩
              have Hr9 := Lib.hid (RdrIs.below Hr7.out (below_drewN (Below.refl _ _) y))
              have Hb9 := Lib.hid (below_drewN Hb7.out y)
              generalize wr.drewN y = w9 at *
              go_wp2_with (first
                | (go_at_call 30; refine (num_calls _ _ hE1 hE2).mono ?_; rintro e w' ⟨rfl, rfl⟩)
                | (go_at_call 33; refine (left_calls g A4 n3 cap4 1 _ full E _ Hr9.out (by omega)).mono ?_; rintro e w' ⟨rfl, z, rfl⟩; rw [Hlf.out]))
              go_ret
              exact ⟨rfl, below_drewN Hb9.out z⟩
          · have hl3 : ¬ (a : Int) < (k : Int) := by omega
            go_wp2_with fail
            refine (err_calls g A4 n3 cap4 1 _ full E wr Hr7.out).mono ?_
            rintro e w8 ⟨rfl, y, rfl⟩
            have Hr9 := Lib.hid (RdrIs.below Hr7.out (below_drewN (Below.refl _ _) y))
            have Hb9 := Lib.hid (below_drewN Hb7.out y)
            generalize wr.drewN y = w9 at *
            go_wp2_with (first
              | (go_at_call 30; refine (num_calls _ _ hE1 hE2).mono ?_; rintro e w' ⟨rfl, rfl⟩)
              | (go_at_call 33; refine (left_calls g A4 n3 cap4 1 _ full E _ Hr9.out (by omega)).mono ?_; rintro e w' ⟨rfl, z, rfl⟩; rw [Hlf.out]))
            go_ret
            exact ⟨rfl, below_drewN Hb9.out z⟩
  · have hbi : (65536 : Int) < (n : Int) := by omega
    go_wp2_with fail
    go_ret
    exact ⟨rfl, Hb1.out⟩
end Go.Proofs.Ytkohakogknodeaa
