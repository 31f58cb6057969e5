/- VarintGaps: the walk -/
import Derived.Test.YtkohakogknodeaaLawOne
namespace Go.Proofs.Ytkohakogknodeaa
open Go.ChangeShapes Go.WideShapes Go.ChangeAt Go.RowKit
set_option linter.unusedSimpArgs false
set_option linter.unusedVariables false
/-- What the place is at the number a: the last one, or one more, if the next is greater. -/
def GapAt (zs : List Int) (f : Int) (a : Nat) (g h : Int) : Prop :=
  (a = 0 ∧ g = f ∧ h = f) ∨ ∃ (j : Nat) (y : Int), a = j + 1 ∧ zs[j]? = some y ∧ 0 ≤ y ∧ g = y + 1 ∧ (∀ x, zs[a]? = some x → (y < x → h = y + 1) ∧ (¬ y < x → h = y))
set_option maxHeartbeats 4000000 in
set_option maxRecDepth 20000 in
theorem law_gaps (f : Int) (A : Option Addr) (k cap : Nat) (zs : List Int) (w : World) (hfw : (Lit.int .i64 f).wf = true) (ha : InI w A k cap zs) :
    Calls Try.prog 10 #[.int .i64 f, .slice A k cap] w fun e w' => e = .returned (.bool true) ∧ Below w.heap.size w w' := by
  obtain ⟨i0, hi, hz0, hz1, hz2⟩ := info_parts infoU8
  have Hi := Lib.hid hi; clear hi
  obtain ⟨hk, hkc, hkm, hknil, hkr, hz⟩ := ha
  have hfb := bounds_i64 hfw
  have Hk := Lib.hid hk; have Hkr := Lib.hid hkr; have Hz := Lib.hid hz; have Hkm := Lib.hid hkm
  unfold maxLen at hkm
  clear hk hkr hz hknil hfw
  go_enter Try.func10, Try.ntmps10
  go_wp2_with fail
  refine (first_calls w).mono ?_
  rintro e w1 ⟨rfl, hb1⟩
  have hs1 := hb1.size
  have Hb1 := Lib.hid hb1
  clear hb1
  by_cases hf0 : 0 ≤ f
  · have hf1 : ¬ f < 0 := by omega
    by_cases hbig : k ≤ 65536
    · have hbi : ¬ (65536 : Int) < (k : Int) := by omega
      have hOk : Vi.putOk f zs = Vi.rise f zs := by unfold Vi.putOk; rw [decide_eq_true hf0]; rfl
      have HOk := Lib.hid hOk; clear hOk
      go_wp2_with fail
      refine (Put_calls none 0 0 w1.heap.size [] (k : Int) w1 (by omega) rfl (by decide) (Nat.le_refl _) (Rd.nil _ _ _)).mono ?_
      rintro e w2 ⟨A2, n2, cap2, rfl, hn2, hown2, hb2⟩
      rw [List.nil_append, Int.toNat_natCast] at hn2 hown2
      have h9 := Vi.len_nine (x := k) (by omega)
      have hn2b : n2 ≤ 9 := by rw [hn2, Vi.form_length]; exact h9
      have hs2 := hb2.size
      have Hb2 := Lib.hid (Hb1.out.trans (hb2.mono hs1)); have Hown2 := Lib.hid hown2; have Hn2 := Lib.hid hn2
      clear hb2 hown2 hn2 h9
      go_wp2_with fail
      go_loopw [6, 7, 8] (fun o h' i wr => ∃ (a : Nat) (O : List (BitVec 8)) (g h : Int), i = .int .i64 (a : Int) ∧ h' = .int .i64 h ∧ a ≤ k ∧ O.length ≤ 9 + 9 * a ∧ O ++ Vi.gapsL g (zs.drop a) = Vi.form zs.length ++ Vi.gapsL f zs ∧ Vi.rise f zs = Vi.rise g (zs.drop a) ∧
        GapAt zs f a g h ∧ wr.ownsRow w.heap.size 5 1 o O.length (O.map V8) ∧ Below w.heap.size w wr) (fun _ _ i _ => k - (intOf i).toNat)
      case atStart =>
        exact ⟨0, Vi.form k, f, f, rfl, rfl, by omega, by rw [← Hn2.out]; omega, by rw [Hk.out]; simp, rfl, Or.inl ⟨rfl, rfl, rfl⟩, by rw [← Hn2.out]; exact own_base Hown2.out hs1, Hb2.out⟩
      case round =>
        obtain ⟨a, O, g, h, rfl, rfl, ha, hOl, hO, hR, hg, hown, hbl⟩ := hrel
        obtain ⟨A3, cap3, rfl, hc3, hm3, _⟩ := own_form hown
        have HO := Lib.hid hO; have HR := Lib.hid hR; have Hown := Lib.hid hown; have Hbl := Lib.hid hbl
        have hsz := hbl.size
        clear hO hR hown hbl
        by_cases hlt : a < k
        · have q1 : (a : Int) < (k : Int) := by omega
          obtain ⟨x, hx⟩ : ∃ x, zs[a]? = some x := ⟨zs[a]'(by rw [← Hk.out]; omega), List.getElem?_eq_getElem _⟩
          obtain ⟨b, off, rfl, hb, hc⟩ := rd_get (Hkr.out.below Hbl.out (Nat.le_refl _)) hx
          obtain ⟨hx1, hx2⟩ := i64s_max Hz.out hx
          have hd : zs.drop a = x :: zs.drop (a + 1) := by
            rw [List.drop_eq_getElem_cons (List.getElem?_eq_some_iff.1 hx).1, (List.getElem?_eq_some_iff.1 hx).2]
          have Hd := Lib.hid hd; have Hx := Lib.hid hx
          clear hd hx
          have hlen : (a : Int) < (k : Int) := q1
          -- does the number rise?
          go_upto_region 9 with fail
          go_cut [59] (fun s wc => s = .bool (decide (x < g)) ∧ (x < g ∨ h = g) ∧ ∃ d, wc = wr.drewN d)
          case first =>
            rcases hg with ⟨rfl, hgf, hhf⟩ | ⟨j, y, rfl, hy, hy0, rfl, hnext⟩
            · subst hgf; subst hhf
              have hc0 : wr.cell? ⟨b, off, none⟩ = some (.int .i64 x) := by rw [Nat.add_zero] at hc; exact hc
              clear hc
              have e0 : (0 : Int) < (k : Int) := q1
              by_cases hle : x < h
              · go_quiet (fail)
                go_wp2_with fail
                go_meet
                exact ⟨by rw [decide_eq_true (by omega)], Or.inl (by omega), nq, rfl⟩
              · go_quiet (fail)
                go_wp2_with fail
                go_meet
                exact ⟨by rw [decide_eq_false (by omega)], Or.inr trivial, nq, rfl⟩
            · obtain ⟨b', off', e', _, hcy⟩ := rd_get (Hkr.out.below Hbl.out (Nat.le_refl _)) hy
              injection e' with e'; injection e' with e1 e2; subst e1; subst e2
              have hj1 : (((j : Int) + 1) - 1) = (j : Int) := by omega
              have hj0 : (0 : Int) < (j : Int) + 1 := by omega
              have hjk : (j : Int) < (k : Int) := by omega
              have hjw : wrap64 ((j : Int) + 1 - 1) = (j : Int) := by rw [hj1]; exact IntWalk.wrap64_in _ (by omega)
              obtain ⟨h1, h2⟩ := hnext x Hx.out
              clear hnext hy
              by_cases hyx : y < x
              · obtain rfl := h1 hyx
                have t1 : ¬ x < y + 1 := by omega
                have t2 : (x == y) = false := by rw [beq_eq_false_iff_ne]; omega
                clear h1 h2
                go_quiet (fail)
                go_wp2_with fail
                go_meet
                exact ⟨by rw [decide_eq_false (by omega)], Or.inr trivial, nq, rfl⟩
              · obtain rfl := h2 hyx
                clear h1 h2
                by_cases hxh : x < h
                · go_quiet (fail)
                  go_wp2_with fail
                  go_meet
                  exact ⟨by rw [decide_eq_true (show x < h + 1 by omega)], Or.inl (by omega), nq, rfl⟩
                · have t2 : (x == h) = true := by rw [beq_iff_eq]; omega
                  go_quiet (fail)
                  go_wp2_with fail
                  go_meet
                  exact ⟨by rw [decide_eq_true (show x < h + 1 by omega)], Or.inl (by omega), nq, rfl⟩
          case rest =>
            obtain ⟨rfl, hor, d, rfl⟩ := hcut
            have Hbd := Lib.hid (below_drewN Hbl.out d)
            have Hownd := Lib.hid (own_below Hown.out (below_drewN (Below.refl _ _) d) (Nat.le_refl _))
            clear Hbl Hown hc hsz
            generalize wr.drewN d = wd at *
            have hsd := Hbd.out.size
            have Hrd := Lib.hid (Hkr.out.below Hbd.out (Nat.le_refl _))
            have hcd := (rd_get Hrd.out Hx.out)
            obtain ⟨b', off', e', _, hc⟩ := hcd
            injection e' with e'; injection e' with e1 e2; subst e1; subst e2
            have Hg := Lib.hid hg; clear hg
            by_cases hle : x < g
            · have hE : Vi.putOk f zs = false := by rw [HOk.out, HR.out, Hd.out, Vi.rise, decide_eq_false (by omega)]; rfl
              have HE := Lib.hid hE; clear hE hor
              rw [decide_eq_true hle]
              go_wp2_with fail
              refine (putList_calls none 0 0 wd.heap.size [] f (some ⟨b, off, none⟩) k cap w.heap.size zs wd rfl (by decide) Hk.out (by omega) hkc Hkm.out (Nat.le_refl _) hsd (Rd.nil _ _ _) Hrd.out Hz.out hfb.2).mono ?_
              rintro e w5 ⟨A5, n5, cap5, rfl, hn5, hown5, hb5⟩
              have ee : Vi.putE f zs = 14 := by unfold Vi.putE; rw [if_neg (by rw [HE.out]; simp)]
              have ep : Vi.putB [] f zs = [] := by unfold Vi.putB; rw [if_neg (by rw [HE.out]; simp)]
              rw [ep] at hn5
              obtain rfl : n5 = 0 := hn5
              rw [ee]
              have Hb5 := Lib.hid (Hbd.out.trans (hb5.mono hsd))
              clear hown5 hb5 ee ep hc
              go_wp2_with (go_at_call 30; refine (num_calls 14 _ (by omega) (by omega)).mono ?_; rintro e w' ⟨rfl, rfl⟩)
              go_ret
              exact ⟨rfl, Hb5.out⟩
            · obtain rfl : h = g := by omega
              have hh0 : 0 ≤ h := by
                rcases Hg.out with ⟨_, _, e⟩ | ⟨j, y, _, _, h0, e, _⟩ <;> omega
              rw [decide_eq_false hle]
              have hgap : h ≤ x := by omega
              clear hor
              go_wp2_with fail
              refine (Put_calls none 0 0 wd.heap.size [] (x - h) wd (by omega) rfl (by decide) (Nat.le_refl _) (Rd.nil _ _ _)).mono ?_
              rintro e w4 ⟨A4, n4, cap4, rfl, hn4, hown4, hb4⟩
              rw [List.nil_append] at hn4 hown4
              have h9 := Vi.len_nine (x := (x - h).toNat) (by omega)
              have hl4 : (O ++ Vi.form (x - h).toNat).length ≤ 9 + 9 * (a + 1) := by rw [List.length_append, Vi.form_length]; omega
              have hn4b : n4 ≤ 9 := by rw [hn4, Vi.form_length]; exact h9
              have hs4 := hb4.size
              have Hownd4 := Lib.hid (own_below Hownd.out hb4 (Nat.le_refl _))
              have Hb4 := Lib.hid (Hbd.out.trans (hb4.mono hsd)); have Hown4 := Lib.hid hown4; have Hn4 := Lib.hid hn4; have Hl4 := Lib.hid hl4
              have HO4 := Lib.hid (show (O ++ Vi.form (x - h).toNat) ++ Vi.gapsL (x + 1) (zs.drop (a + 1)) = Vi.form zs.length ++ Vi.gapsL f zs by rw [← HO.out, Hd.out, Vi.gapsL, List.append_assoc])
              have HR4 := Lib.hid (show Vi.rise f zs = Vi.rise (x + 1) (zs.drop (a + 1)) by rw [HR.out, Hd.out, Vi.rise, decide_eq_true hgap, Bool.true_and])
              clear hown4 hb4 hn4 hl4 h9 Hownd hc
              go_wp2_with (at_builtin; refine wpList_append_rd rfl _ _ 22 rfl w.heap.size 5 i0 _ 1 descU8s Hi.out hz0 hz1 hz2 rfl _ O.length (O.map V8) rfl Hownd4.out _ A4 n4 cap4 ((Vi.form (x - h).toNat).map V8) rfl (by rw [List.length_map]; exact Hn4.out) (own_nil Hown4.out) (own_rd Hown4.out) (v8_one _) (by unfold maxLen; omega) (by omega) (by omega) ?_)
              intro v6 w6 hown6 hg6
              rw [← List.map_append, show O.length + n4 = (O ++ Vi.form (x - h).toNat).length by rw [List.length_append, ← Hn4.out]] at hown6
              obtain ⟨A6, cap6, rfl, hc6, hm6, _⟩ := own_form hown6
              have hb6 := Hb4.out.trans (grown_below Hownd4.out hg6 (by omega))
              have Hb6 := Lib.hid hb6; have Hown6 := Lib.hid hown6
              have Hr6 := Lib.hid (Hkr.out.below hb6 (Nat.le_refl _))
              obtain ⟨b', off', e', _, hc6x⟩ := rd_get Hr6.out Hx.out
              injection e' with e'; injection e' with e1 e2; subst e1; subst e2
              have hs6 := hb6.size
              clear hb6 hown6 hg6 hm6 Hownd4
              by_cases hlast : a + 1 < k
              · have hl1 : (a : Int) + 1 < (k : Int) := by omega
                obtain ⟨y, hy⟩ : ∃ y, zs[a + 1]? = some y := ⟨zs[a + 1]'(by rw [← Hk.out]; omega), List.getElem?_eq_getElem _⟩
                obtain ⟨b', off', e', _, hcy⟩ := rd_get Hr6.out hy
                injection e' with e'; injection e' with e1 e2; subst e1; subst e2
                obtain ⟨hy1, hy2⟩ := i64s_max Hz.out hy
                have Hy := Lib.hid hy
                clear hy
                by_cases hyx : x < y
                · have Hend := Lib.hid (show GapAt zs f (a + 1) (x + 1) (x + 1) from Or.inr ⟨a, x, rfl, Hx.out, by omega, rfl, fun z hz => by
                    have e : y = z := by have := Hy.out.symm.trans hz; injection this
                    subst e; exact ⟨fun _ => rfl, fun h => absurd hyx h⟩⟩)
                  go_wp2_with fail
                  exact ⟨⟨a + 1, _, x + 1, x + 1, by congr 1, rfl, by omega, Hl4.out, HO4.out, HR4.out, Hend.out, Hown6.out, Hb6.out⟩, by simp [intOf]; omega⟩
                · have Hend := Lib.hid (show GapAt zs f (a + 1) (x + 1) x from Or.inr ⟨a, x, rfl, Hx.out, by omega, rfl, fun z hz => by
                    have e : y = z := by have := Hy.out.symm.trans hz; injection this
                    subst e; exact ⟨fun h => absurd h hyx, fun _ => rfl⟩⟩)
                  go_wp2_with fail
                  exact ⟨⟨a + 1, _, x + 1, x, by congr 1, rfl, by omega, Hl4.out, HO4.out, HR4.out, Hend.out, Hown6.out, Hb6.out⟩, by simp [intOf]; omega⟩
              · have hl1 : ¬ (a : Int) + 1 < (k : Int) := by omega
                have Hend := Lib.hid (show GapAt zs f (a + 1) (x + 1) x from Or.inr ⟨a, x, rfl, Hx.out, by omega, rfl, fun z hz => by
                    have := (List.getElem?_eq_some_iff.1 hz).1
                    rw [← Hk.out] at this; omega⟩)
                go_wp2_with fail
                exact ⟨⟨a + 1, _, x + 1, x, by congr 1, rfl, by omega, Hl4.out, HO4.out, HR4.out, Hend.out, Hown6.out, Hb6.out⟩, by simp [intOf]; omega⟩
        · obtain rfl : a = k := by omega
          have hd : zs.drop a = [] := List.drop_eq_nil_of_le (by rw [Hk.out]; exact Nat.le_refl _)
          have hO2 := HO.out; have hR2 := HR.out
          rw [hd, Vi.gapsL, List.append_nil] at hO2
          rw [hd, Vi.rise] at hR2
          have hE : Vi.putOk f zs = true := by rw [HOk.out, hR2]
          have HE := Lib.hid hE; have HO2 := Lib.hid hO2
          have Hrw := Lib.hid (Hkr.out.below Hbl.out (Nat.le_refl _))
          clear hE hO2 hR2 hd hg
          go_wp2_with fail
          refine (putList_calls none 0 0 wr.heap.size [] f A a cap w.heap.size zs wr rfl (by decide) Hk.out (by omega) hkc Hkm.out (Nat.le_refl _) hsz (Rd.nil _ _ _) Hrw.out Hz.out hfb.2).mono ?_
          rintro e w5 ⟨A5, n5, cap5, rfl, hn5, hown5, hb5⟩
          have ee : Vi.putE f zs = 0 := by unfold Vi.putE; rw [if_pos HE.out]
          have ep : Vi.putB [] f zs = O := by unfold Vi.putB; rw [if_pos HE.out]; exact HO2.out.symm
          rw [ep] at hn5 hown5
          rw [ee]
          have Hb5 := Lib.hid (Hbl.out.trans (hb5.mono hsz)); have Hown5 := Lib.hid hown5
          have HownO := Lib.hid (own_below Hown.out hb5 (Nat.le_refl _))
          have Hn5 := Lib.hid hn5
          clear hown5 hb5 ee ep hn5 Hown
          go_wp2_with fail
          refine (same_calls A5 A3 n5 cap5 O.length cap3 _ _ O O w5 Hn5.out rfl (fun h => (own_nil Hown5.out h).1) (fun h => (own_nil HownO.out h).1) (own_rd Hown5.out) (own_rd HownO.out)).mono ?_
          rintro e w' ⟨rfl, rfl⟩
          rw [decide_eq_true rfl]
          go_wp2_with (go_at_call 30; refine (num_calls 0 _ (by omega) (by omega)).mono ?_; rintro e w' ⟨rfl, rfl⟩)
          go_ret
          exact ⟨rfl, Hb5.out⟩
    · have hbi : (65536 : Int) < (k : Int) := by omega
      go_wp2_with fail
      go_ret
      exact ⟨rfl, Hb1.out⟩
  · have hf1 : f < 0 := by omega
    go_wp2_with fail
    go_ret
    exact ⟨rfl, Hb1.out⟩
end Go.Proofs.Ytkohakogknodeaa
