/- VarintOneForm: the walk -/
import Derived.Test.YtkohakogknodeaaLawLists
namespace Go.Proofs.Ytkohakogknodeaa
open Go.ChangeShapes Go.WideShapes Go.ChangeAt Go.RowKit
set_option linter.unusedSimpArgs false
set_option linter.unusedVariables false
theorem numE_small (b : List (BitVec 8)) : 0 ≤ Vi.numE b ∧ Vi.numE b ≤ 100 := by rcases Vi.numE_cases b with h | h | h | h <;> rw [h] <;> decide
theorem rdE_small (f bel : Int) (b : List (BitVec 8)) : 0 ≤ (Vi.rdL f bel b).2.2 ∧ (Vi.rdL f bel b).2.2 ≤ 100 := by rcases Vi.rdL_cases f bel b with h | h | h | h | h <;> rw [h] <;> decide
set_option maxHeartbeats 4000000 in
set_option maxRecDepth 20000 in
theorem law_one (A : Option Addr) (n cap : Nat) (bs : List (BitVec 8)) (f bel : Int) (w : World) (ha : In8 w A n cap bs) (hfw : (Lit.int .i64 f).wf = true) (hbw : (Lit.int .i64 bel).wf = true) :
    Calls Try.prog 9 #[.slice A n cap, .int .i64 f, .int .i64 bel] w fun e w' => e = .returned (.bool true) ∧ Below w.heap.size w w' := by
  obtain ⟨hn, hc, hcm, hnil, hr⟩ := ha
  have hfb := bounds_i64 hfw
  have hbb := bounds_i64 hbw
  have Hn := Lib.hid hn; have Hnil := Lib.hid hnil; have Hr := Lib.hid hr
  unfold maxLen at hcm
  clear hn hnil hr hfw hbw
  go_enter Try.func9, Try.ntmps9
  go_wp2_with fail
  refine (first_calls w).mono ?_
  rintro e w1 ⟨rfl, hb1⟩
  have hs1 := hb1.size
  have Hb1 := Lib.hid hb1
  clear hb1
  by_cases hbig : n ≤ 65536
  · have hbi : ¬ (65536 : Int) < (n : Int) := by omega
    go_wp2_with fail
    refine (newReader_calls A n cap w.heap.size bs w1 Hn.out (by omega) hs1 (Hr.out.below Hb1.out (Nat.le_refl _))).mono ?_
    rintro e w2 ⟨g2, A2, cap2, rfl, hr2, hb2⟩
    have hs2 := hb2.size
    have Hb2 := Lib.hid (Hb1.out.trans (hb2.mono hs1)); have Hr2 := Lib.hid hr2
    have hgw : w1.heap.size ≤ g2 := hr2.2.2.2.2
    clear hb2 hr2
    go_wp2_with fail
    refine (newReader_calls A n cap w.heap.size bs w2 Hn.out (by omega) (by omega) (Hr.out.below Hb2.out (Nat.le_refl _))).mono ?_
    rintro e w3 ⟨g3, A3, cap3, rfl, hr3, hb3⟩
    have hs3 := hb3.size
    have Hb3 := Lib.hid (Hb2.out.trans (hb3.mono (by omega))); have Hr3 := Lib.hid hr3
    have Hr23 := Lib.hid (RdrIs.below Hr2.out hb3)
    have hg3w : w2.heap.size ≤ g3 := hr3.2.2.2.2
    have hg32 : g3 ≠ g2 := by have := hr3.2.2.2.2; have := lt_heap Hr2.out.1; omega
    clear hb3 hr3 Hr2
    go_wp2_with fail
    refine (int_calls g2 A2 n cap2 0 _ bs 0 w3 Hr23.out (by omega)).mono ?_
    rintro e w4 ⟨rfl, hu4, hr4⟩
    obtain ⟨s1, s2, s3⟩ := Vi.iX_zero bs 0
    rw [List.drop_zero, Nat.zero_add] at s2
    rw [List.drop_zero] at s1 s3
    rw [s2, s3] at hr4
    rw [s1]
    have Hr34 := Lib.hid (RdrIs.other Hr3.out Hr23.out.1 (by decide) hg32 hu4)
    have Hb4 := Lib.hid (Hb3.out.trans (hu4.below (by omega) Hb3.out.size)); have Hr4 := Lib.hid hr4
    clear hu4 hr4 s1 s2 s3 Hr23 Hr3
    go_wp2_with fail
    refine (err_calls g2 A2 n cap2 _ _ bs _ w4 Hr4.out).mono ?_
    rintro e w5 ⟨rfl, k5, rfl⟩
    have Hb5 := Lib.hid (below_drewN Hb4.out k5)
    have Hr5 := Lib.hid (RdrIs.below Hr34.out (below_drewN (Below.refl _ _) k5))
    clear Hr34 Hr4 Hb4
    generalize w4.drewN k5 = w5 at *
    have hs5 := Hb5.out.size
    have he := numE_small bs
    have hN := Vi.numN_le bs
    rw [← Hn.out] at hN
    have hx := Vi.numX_lt bs
    have Hform := Lib.hid (fun h => @Vi.num_form bs h); have Hpos := Lib.hid (fun h => @Vi.numN_pos bs h); have Hzero := Lib.hid (fun h => @Vi.num_err bs h)
    generalize Vi.numE bs = E at *
    generalize Vi.numX bs = X at *
    generalize Vi.numN bs = M at *
    obtain ⟨hM1, hM2⟩ := hN
    go_upto_if 48 with (go_at_call 30; refine (num_calls _ _ he.1 he.2).mono ?_; rintro e w' ⟨rfl, rfl⟩)
    go_cut [] (fun w' => Below w5.heap.size w5 w')
    case first =>
      by_cases hE : E = 0
      · subst hE
        obtain ⟨t1, t2⟩ := Hform.out rfl
        have hM0 := Hpos.out rfl
        have q1 : ¬ (M : Int) < 1 := by omega
        have q2 : ¬ (n : Int) < (M : Int) := by omega
        have q3 : ¬ (X : Int) < 0 := by omega
        have q4 : ((M : Int) != (M : Int)) = false := by simp
        have q5 : (M : Int) ≤ (cap : Int) := by omega
        have T1 := Lib.hid t1; have T2 := Lib.hid t2
        obtain ⟨blk, off, rfl, hblk, hx0⟩ := Hr.out.at_ (k := 0) (by rw [List.length_map, ← Hn.out]; omega)
        clear t1 t2 hx0 Hform Hpos Hzero
        go_wp2_with (go_at_call 18; refine (len_calls (X : Int) _ (by omega)).mono ?_; rintro e w' ⟨rfl, rfl⟩; rw [Int.toNat_natCast, T2.out])
        have HT := Lib.hid (show [] ++ Vi.form ((X : Int)).toNat = bs.take M by rw [Int.toNat_natCast, List.nil_append]; exact T1.out.symm)
        have hst : (True ∧ True) ∧ Below w5.heap.size w5 w5 := ⟨⟨trivial, trivial⟩, Below.refl _ _⟩
        go_region_held3 (fun w' => (True ∧ True) ∧ Below w5.heap.size w5 w')
          ((rename (_ ∧ _) ∧ Below _ _ _ => hS; first
            | exact hS
            | exact ki_keep hS (below_drewN (Below.refl _ _) 1)
            | exact ki_keep hS (Below.mono (by assumption) hS.2.size)))
          ((first
            | (go_at_call 16; rename (_ ∧ _) ∧ Below _ _ _ => hS; refine (Put_calls none 0 0 _ [] (X : Int) _ (by omega) rfl (by decide) (Nat.le_refl _) (Rd.nil _ _ _)).mono ?_; rintro e w' ⟨A1, n1, cap1, rfl, hn1, hown1, hb1⟩; rw [HT.out] at hn1 hown1; have Hn1 := Lib.hid hn1; clear hn1)
            | (go_at_call 15; rename (_ ∧ _) ∧ Below _ _ _ => hS; refine (same_calls A1 (some ⟨blk, off, none⟩) n1 cap1 M cap _ w.heap.size (bs.take M) (bs.take M) _ Hn1.out (by rw [List.length_take, ← Hn.out]; omega) (fun h => (own_nil hown1 h).1) (by intro h; cases h) (own_rd hown1) (rd_pre M ((Hr.out.below Hb5.out (Nat.le_refl _)).below hS.2 hs5))).mono ?_; rintro e w' ⟨rfl, rfl⟩)))
        all_goals (rename (_ ∧ _) ∧ Below _ _ _ => hF)
        all_goals (have HF := Lib.hid hF.2)
        all_goals clear hF hst
        all_goals go_wp2_with fail
        all_goals go_meet
        all_goals exact HF.out
      · have hb : (E == 0) = false := by rw [beq_eq_false_iff_ne]; exact hE
        obtain ⟨rfl, rfl⟩ := Hzero.out hE
        clear hE
        go_wp2_with fail
        go_meet
        exact Below.refl _ _
    case rest =>
      have Hr6 := Lib.hid (RdrIs.below Hr5.out hcut)
      have Hb6 := Lib.hid (Hb5.out.trans (hcut.mono hs5))
      clear hcut Hr5 Hform Hpos Hzero he hM1 hM2 hx
      have hsc := Hb6.out.size
      go_wp2_with fail
      refine (List_calls g3 A3 n cap3 0 _ bs 0 f bel wc Hr6.out (by omega) hfb.2 hbb.2 hbb.1).mono ?_
      rintro e w7 ⟨hu7, A7, n7, cap7, rfl, hn7, hown7, hr7⟩
      obtain ⟨s1, s2, s3⟩ := i16s bs 0 f bel
      rw [List.drop_zero] at s1 s2 s3
      rw [Nat.zero_add] at s2
      rw [s1] at hn7 hown7
      rw [s2, s3] at hr7
      have Hb7 := Lib.hid (Hb6.out.trans (hu7.below (by omega) Hb6.out.size)); have Hr7 := Lib.hid hr7; have Hown7 := Lib.hid hown7; have Hn7 := Lib.hid hn7
      clear hu7 hr7 hown7 hn7 s1 s2 s3 Hr6
      go_wp2_with fail
      refine (err_calls g3 A3 n cap3 _ _ bs _ w7 Hr7.out).mono ?_
      rintro e w8 ⟨rfl, k8, rfl⟩
      have Hb8 := Lib.hid (below_drewN Hb7.out k8)
      have Hr8 := Lib.hid (RdrIs.below Hr7.out (below_drewN (Below.refl _ _) k8))
      have Hown8 := Lib.hid (own_below Hown7.out (below_drewN (Below.refl _ _) k8) (Nat.le_refl _))
      clear Hr7 Hb7 Hown7
      generalize w7.drewN k8 = w8 at *
      have hs8 := Hb8.out.size
      have he := rdE_small f bel bs
      have hlen := Vi.rdL_len f bel bs
      rw [← Hn.out] at hlen
      have Hform := Lib.hid (Vi.rdL_form f bel bs); have Herr := Lib.hid (Vi.rdL_err f bel bs)
      obtain ⟨zs, hzs⟩ : ∃ z, z = (Vi.rdL f bel bs).1 := ⟨_, rfl⟩
      obtain ⟨C, hC⟩ : ∃ z, z = (Vi.rdL f bel bs).2.1 := ⟨_, rfl⟩
      obtain ⟨E2, hE2⟩ : ∃ z, z = (Vi.rdL f bel bs).2.2 := ⟨_, rfl⟩
      rw [← hzs, ← hC] at hlen
      rw [← hzs, ← hC, ← hE2] at Hform Herr
      rw [← hE2] at he
      rw [← hC, ← hE2] at Hr8 ⊢
      rw [← hzs] at Hown8 Hn7
      clear hzs hC hE2
      obtain ⟨hl1, hl2⟩ := hlen
      by_cases hE : E2 = 0
      · subst hE
        obtain ⟨t1, t2, t3, t4⟩ := Hform.out rfl
        have hn7b : n7 ≤ C := by rw [Hn7.out]; exact hl2
        have hb : ((0 : Int) != 0) = false := rfl
        obtain ⟨p1, p2⟩ := own_cap Hown8.out
        have Hz := Lib.hid (show ∀ z ∈ zs, -9223372036854775808 ≤ z ∧ z ≤ 9223372036854775807 from fun z hz => by have := t4 z hz; omega)
        have T1 := Lib.hid t1; have T2 := Lib.hid t2; have T4 := Lib.hid t4
        clear t1 t2 t4 Hform Herr he hl2
        go_upto_block 0 with (go_at_call 30; refine (num_calls 0 _ (by omega) (by omega)).mono ?_; rintro e w' ⟨rfl, rfl⟩)
        go_cut [17] (fun s w' => w8 = w')
        case first =>
          go_wp2_with fail
          go_loopw [17] (fun i wr => ∃ a : Nat, i = .int .i64 (a : Int) ∧ a ≤ n7 ∧ w8 = wr) (fun i _ => n7 - (intOf i).toNat)
          case atStart => exact ⟨0, rfl, by omega, rfl⟩
          case round =>
            obtain ⟨a, rfl, ha, rfl⟩ := hrel
            by_cases hlt : a < n7
            · have l1 : (a : Int) < (n7 : Int) := by omega
              obtain ⟨z, hz⟩ : ∃ z, zs[a]? = some z := ⟨zs[a]'(by rw [← Hn7.out]; exact hlt), List.getElem?_eq_getElem _⟩
              obtain ⟨b, off, rfl, _, hcz⟩ := rd_get (own_rd Hown8.out) hz
              obtain ⟨z1, z2⟩ := T4.out z (List.mem_of_getElem? hz)
              have q1 : ¬ z < f := by omega
              have q2 : ¬ bel ≤ z := by omega
              unfold maxLen at p2
              clear hz
              go_wp2_with fail
              exact ⟨⟨a + 1, by congr 1, by omega, trivial⟩, by simp [intOf]; omega⟩
            · have l1 : ¬ (a : Int) < (n7 : Int) := by omega
              go_wp2_with fail
              go_meet
              rfl
        case rest =>
          subst hcut
          go_wp2_with fail
          refine (putList_calls none 0 0 w8.heap.size [] f A7 n7 cap7 w8.heap.size zs w8 rfl (by decide) Hn7.out (by omega) p1 p2 (Nat.le_refl _) (Nat.le_refl _) (Rd.nil _ _ _) (own_rd Hown8.out) Hz.out hfb.2).mono ?_
          rintro e w9 ⟨A9, n9, cap9, rfl, hn9, hown9, hb9⟩
          have ep : Vi.putB [] f zs = bs.take C := by rw [T2.out]; unfold Vi.putB Vi.putL; rw [if_pos T1.out, if_pos T1.out]; rfl
          have ee : Vi.putE f zs = 0 := by unfold Vi.putE; rw [if_pos T1.out]
          rw [ep] at hn9 hown9
          rw [ee]
          obtain rfl : n9 = C := by rw [hn9, List.length_take, ← Hn.out]; omega
          have Hn9 := Lib.hid hn9; have Hown9 := Lib.hid hown9; have Hb9 := Lib.hid (Hb8.out.trans (hb9.mono hs8))
          have q1 : ¬ (n9 : Int) < 1 := by omega
          have q2 : ¬ (n : Int) < (n9 : Int) := by omega
          have q5 : (n9 : Int) ≤ (cap : Int) := by omega
          obtain ⟨blk, off, rfl, hblk, hx0⟩ := Hr.out.at_ (k := 0) (by rw [List.length_map, ← Hn.out]; omega)
          clear hn9 hown9 hb9 ep ee hx0
          go_wp2_with (go_at_call 30; refine (num_calls 0 _ (by omega) (by omega)).mono ?_; rintro e w' ⟨rfl, rfl⟩)
          refine (same_calls A9 (some ⟨blk, off, none⟩) n9 cap9 n9 cap _ w.heap.size (bs.take n9) (bs.take n9) w9 Hn9.out Hn9.out (fun h => (own_nil Hown9.out h).1) (by intro h; cases h) (own_rd Hown9.out) (rd_pre n9 (Hr.out.below Hb9.out (Nat.le_refl _)))).mono ?_
          rintro e w' ⟨rfl, rfl⟩
          rw [decide_eq_true rfl]
          go_wp2_with fail
          go_ret
          exact ⟨rfl, Hb9.out⟩
      · obtain ⟨z1, z2⟩ := Herr.out hE
        have hb : (E2 != 0) = true := by rw [bne_iff_ne]; exact hE
        have hl7 : n7 = 0 := by rw [Hn7.out, z1]; rfl
        subst hl7
        subst z2
        have Hl := Lib.hid (show lft bs 0 E2 = 0 from if_neg hE)
        clear hE z1 Hform Herr Hown8 Hn7
        go_wp2_with (first
          | (go_at_call 30; refine (num_calls _ _ he.1 he.2).mono ?_; rintro e w' ⟨rfl, rfl⟩)
          | (go_at_call 33; refine (left_calls g3 A3 n cap3 _ _ bs _ _ Hr8.out (by omega)).mono ?_; rintro e w' ⟨rfl, kk, rfl⟩; rw [Hl.out]))
        go_ret
        exact ⟨rfl, below_drewN Hb8.out kk⟩
  · have hbi : (65536 : Int) < (n : Int) := by omega
    go_wp2_with fail
    go_ret
    exact ⟨rfl, Hb1.out⟩
end Go.Proofs.Ytkohakogknodeaa
