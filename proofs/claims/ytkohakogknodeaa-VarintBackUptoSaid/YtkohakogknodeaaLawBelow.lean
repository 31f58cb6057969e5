/- VarintBelow: the walk -/
import Derived.Test.YtkohakogknodeaaVItem
import Derived.Deep.MidRow
namespace Go.Proofs.Ytkohakogknodeaa
open Go.ChangeShapes Go.WideShapes Go.ChangeAt Go.RowKit
set_option linter.unusedSimpArgs false
set_option linter.unusedVariables false
theorem sizeItem : (Try.prog.info? 47).map (·.size) = some 4 := by kernel_rfl
theorem ld_item (blk off : Nat) (X F : Int) (M : Bool) (A : Option Addr) (n cap : Nat) (w : World) (h0 : w.cell? ⟨blk, off, none⟩ = some (.int .i64 X)) (h1 : w.cell? ⟨blk, off + 1, none⟩ = some (.int .i64 F)) (h2 : w.cell? ⟨blk, off + 2, none⟩ = some (.bool M))
    (h3 : w.cell? ⟨blk, off + 3, none⟩ = some (.slice A n cap)) : (loadVar 47 ⟨blk, off, none⟩).run Try.prog w = .ok (VT X F M A n cap) w := by
  refine run_loadVar_mid w blk off _ [.int .i64 X, .int .i64 F, .bool M, .slice A n cap] _ ?_ Try.underlying47 rfl (by rw [sizeItem]; rfl)
  intro j v hv
  match j, hv with
  | 0, hv => cases hv; exact h0
  | 1, hv => cases hv; exact h1
  | 2, hv => cases hv; exact h2
  | 3, hv => cases hv; exact h3
  | j + 4, hv => cases hv
/-- A load of an item, by what it answers. -/
def CanIt (w : World) (v : Value) : Prop := ∃ u p, v = .pointer (some p) ∧ (loadVar 47 p).run Try.prog w = .ok u w
noncomputable def itV (w : World) (v : Value) : Value := by
  classical
  exact if h : CanIt w v then h.choose else undef
theorem itV_eq {w : World} {p : Addr} {u : Value} (h : (loadVar 47 p).run Try.prog w = .ok u w) : itV w (.pointer (some p)) = u := by
  have hc : CanIt w (.pointer (some p)) := ⟨u, p, rfl, h⟩
  unfold itV
  rw [dif_pos hc]
  obtain ⟨p', e, h2⟩ := hc.choose_spec
  injection e with e; injection e with e; subst e
  rw [h] at h2
  injection h2 with h2
  exact h2.symm
section
variable {dst : Option Tmp} {ty : TypeId} {pos : String} {af : Array Edge} {gd : Option (Nat × Bool)} {x : Operand} {a : Act} {w : World} {K : Act → World → Prop} {Q : Exit → Act → World → Prop}
theorem load_it (h : CanIt w (a.eval x)) : Oper.wp Try.prog ⟨dst, .load 47 x, ty, pos, af, gd⟩ a w K Q = K (a.put dst (itV w (a.eval x))) w := by
  obtain ⟨u, p, hv, h⟩ := h
  rw [hv, itV_eq h]
  unfold Oper.wp execOp
  simp only [hv, Instr.loadAt, Instr.sureAddr, Sem.run_bind, Sem.run_pure, Result.andThen_ok, h]
  rfl
end
namespace Vi
theorem last_below : ∀ (l : List Int) (f bel : Int) (z : Int), rise f l = true → l[l.length - 1]? = some z → ((∀ x ∈ l, x < bel) ↔ z < bel)
  | [], _, _, _, _, h => by simp at h
  | [x], f, bel, z, _, h => by simp at h; subst h; simp
  | x :: y :: t, f, bel, z, hr, h => by
    simp only [rise, Bool.and_eq_true, decide_eq_true_eq] at hr
    have hz : (y :: t)[(y :: t).length - 1]? = some z := by simpa using h
    have ih := last_below (y :: t) (x + 1) bel z (by simp only [rise, Bool.and_eq_true, decide_eq_true_eq]; exact hr.2) hz
    constructor
    · intro hall; exact ih.1 (fun w hw => hall w (by simp [hw]))
    · intro hlt w hw
      have hall := ih.2 hlt
      simp only [List.mem_cons] at hw
      rcases hw with rfl | hw
      · have := hall y (by simp); omega
      · exact hall w (by simpa using hw)
end Vi
attribute [local go_sem ↓] load_it
set_option maxHeartbeats 4000000 in
set_option maxRecDepth 20000 in
theorem law_below (X F : Int) (M : Bool) (A : Option Addr) (n cap : Nat) (zs : List Int) (bel : Int) (A' : Option Addr) (n' cap' : Nat) (bs : List (BitVec 8)) (w : World) (ha : InI w A n cap zs) (hb : (Lit.int .i64 bel).wf = true) (ha' : In8 w A' n' cap' bs) :
    Calls Try.prog 11 #[VT X F M A n cap, .int .i64 bel, .slice A' n' cap'] w fun e w' => e = .returned (.bool true) ∧ Below w.heap.size w w' := by
  obtain ⟨i0, hi, hz0, hz1, hz2⟩ := info_parts infoU8
  have Hi := Lib.hid hi; clear hi
  obtain ⟨hn, hc, hcm, hnil, hr, _⟩ := ha
  obtain ⟨hn', hc', hcm', hnil', hr'⟩ := ha'
  have hbb := bounds_i64 hb
  have Hn := Lib.hid hn; have Hr := Lib.hid hr; have Hn' := Lib.hid hn'; have Hr' := Lib.hid hr'; have Hnil' := Lib.hid hnil'
  unfold maxLen at hcm hcm'
  clear hn hr hn' hr' hnil hnil' hb
  unfold VT
  go_enter Try.func11, Try.ntmps11
  go_wp2_with fail
  obtain ⟨w0, hw0⟩ : ∃ x, x = w.alloc (Obj.cells #[.int .i64 X, .int .i64 F, .bool M, .slice A n cap] 47) := ⟨_, rfl⟩
  rw [← hw0]
  have hs0 : w.heap.size < w0.heap.size := by rw [hw0]; simp
  have Hb0 := Lib.hid (show Below w.heap.size w w0 by rw [hw0]; exact (Below.refl _ _).alloc (Nat.le_refl _) _)
  have HL := Lib.hid (show (loadVar 47 ⟨w.heap.size, 0, none⟩).run Try.prog w0 = .ok (VT X F M A n cap) w0 from
    ld_item _ _ X F M A n cap w0 (by rw [hw0]; simp [go_sem]) (by rw [hw0]; simp [go_sem]) (by rw [hw0]; simp [go_sem]) (by rw [hw0]; simp [go_sem]))
  have HC := Lib.hid (show w0.cell? ⟨w.heap.size, 0, none⟩ = some (.int .i64 X) ∧ w0.cell? ⟨w.heap.size, 0 + 1, none⟩ = some (.int .i64 F) ∧ w0.cell? ⟨w.heap.size, 0 + 2, none⟩ = some (.bool M) ∧ w0.cell? ⟨w.heap.size, 0 + 3, none⟩ = some (.slice A n cap) from
    ⟨by rw [hw0]; simp [go_sem], by rw [hw0]; simp [go_sem], by rw [hw0]; simp [go_sem], by rw [hw0]; simp [go_sem]⟩)
  clear hw0 HL
  refine (first_calls w0).mono ?_
  rintro e w1 ⟨rfl, hb1⟩
  have hs1 := hb1.size
  have hld := ld_item w.heap.size 0 X F M A n cap w1 (by rw [hb1.cell (show w.heap.size < w0.heap.size by omega)]; exact HC.out.1) (by rw [hb1.cell (show w.heap.size < w0.heap.size by omega)]; exact HC.out.2.1)
    (by rw [hb1.cell (show w.heap.size < w0.heap.size by omega)]; exact HC.out.2.2.1) (by rw [hb1.cell (show w.heap.size < w0.heap.size by omega)]; exact HC.out.2.2.2)
  have hcan : CanIt w1 (.pointer (some ⟨w.heap.size, 0, none⟩)) := ⟨_, _, rfl, hld⟩
  have hval := itV_eq hld
  have Hb1 := Lib.hid (Hb0.out.trans (hb1.mono (by omega)))
  clear hb1 hld
  by_cases hbig : n' ≤ 65536
  · have hbi : ¬ (65536 : Int) < (n' : Int) := by omega
    go_wp2_with fail
    refine (numbers_calls X F M A n cap w.heap.size zs w1 Hn.out (by omega) (Hr.out.below Hb1.out (Nat.le_refl _))).mono ?_
    rintro e w2 ⟨A2, m, cap2, rfl, hm, hown2, hb2⟩
    have hfb : 0 ≤ Vi.numF F ∧ Vi.numF F < 1048576 := Vi.abm_bound F 1048576 (by decide)
    have hri := Vi.numsL_rise (zs.take 300) (Vi.numF F)
    have hbd := Vi.numsL_bound (zs.take 300) (Vi.numF F)
    have hlen : (Vi.numsL (Vi.numF F) (zs.take 300)).length ≤ 300 := by rw [Vi.numsL_length, List.length_take]; omega
    have hlen2 : (zs.take 300).length ≤ 300 := by rw [List.length_take]; omega
    generalize Vi.numF F = f at *
    generalize (Vi.numsL f (zs.take 300)) = l at *
    have hlb : ∀ x ∈ l, -9223372036854775808 ≤ x ∧ x ≤ 9223372036854775806 := fun x hx => by have := hbd x hx; omega
    rw [← hm] at hlen
    have hok : Vi.putOk f l = true := by unfold Vi.putOk; rw [decide_eq_true hfb.1, hri]; rfl
    have hs2 := hb2.size
    obtain ⟨p1, p2⟩ := own_cap hown2
    unfold maxLen at p2
    have Hb2 := Lib.hid (Hb1.out.trans (hb2.mono (by omega))); have Hown2 := Lib.hid hown2; have Hm := Lib.hid hm; have Hok := Lib.hid hok; have Hlb := Lib.hid hlb; have Hri := Lib.hid hri
    clear hb2 hown2 hm hcan hval hok hlb hri hbd hlen2
    go_wp2_with fail
    refine (Put_calls none 0 0 w2.heap.size [] (n' : Int) w2 (by omega) rfl (by decide) (Nat.le_refl _) (Rd.nil _ _ _)).mono ?_
    rintro e w3 ⟨A3, n3, cap3, rfl, hn3, hown3, hb3⟩
    rw [List.nil_append, Int.toNat_natCast] at hn3 hown3
    have h39 := Vi.len_nine (x := n') (by omega)
    have h3b : n3 ≤ 9 := by rw [hn3, Vi.form_length]; exact h39
    have hs3 := hb3.size
    have Hown23 := Lib.hid (own_below Hown2.out hb3 (Nat.le_refl _))
    have Hb3 := Lib.hid (Hb2.out.trans (hb3.mono (by omega))); have Hown3 := Lib.hid hown3; have Hn3 := Lib.hid hn3
    clear hb3 hown3 hn3 Hown2 h39
    go_wp2_with fail
    refine (putList_calls A3 n3 cap3 w3.heap.size (Vi.form n') f A2 m cap2 w3.heap.size l w3 Hn3.out (by omega) Hm.out (by omega) p1 (by unfold maxLen; omega) (Nat.le_refl _) (Nat.le_refl _) (own_rd Hown3.out) (own_rd Hown23.out) (fun z hz => by have := Hlb.out z hz; omega) (by omega)).mono ?_
    rintro e w4 ⟨A4, n4, cap4, rfl, hn4, hown4, hb4⟩
    have ee : Vi.putE f l = 0 := by unfold Vi.putE; rw [if_pos Hok.out]
    have ep : Vi.putB (Vi.form n') f l = Vi.form n' ++ Vi.putL f l := by unfold Vi.putB Vi.putL; rw [if_pos Hok.out, if_pos Hok.out]
    rw [ep] at hn4 hown4
    rw [ee]
    have h4b : n4 ≤ 9 + 9 + 9 * 300 := by
      have h9 := Vi.len_nine (x := m) (by omega)
      have hg := Vi.gapsL_len l f (fun x hx => by have := Hlb.out x hx; omega) Hri.out
      rw [hn4, List.length_append, ← Hn3.out]
      unfold Vi.putL
      rw [if_pos Hok.out, List.length_append, Vi.form_length, ← Hm.out]
      rw [← Hm.out] at hg
      omega
    have hs4 := hb4.size
    have Hown24 := Lib.hid (own_below Hown23.out hb4 (Nat.le_refl _))
    have Hb4 := Lib.hid (Hb3.out.trans (hb4.mono (by omega))); have Hown4 := Lib.hid hown4; have Hn4 := Lib.hid hn4
    have Hbb4 := Lib.hid hb4
    clear hb4 hown4 hn4 Hown24 Hown3 ee ep
    go_wp2_with (first
      | (go_at_call 30; refine (num_calls 0 _ (by omega) (by omega)).mono ?_; rintro e w' ⟨rfl, rfl⟩)
      | (at_builtin; go_loud (refine wpList_append_rd rfl _ _ 22 rfl w3.heap.size 5 i0 _ 1 descU8s Hi.out hz0 hz1 hz2 rfl _ n4 ((Vi.form n' ++ Vi.putL f l).map V8) rfl Hown4.out _ A' n' cap' (bs.map V8) rfl (by rw [List.length_map]; exact Hn'.out) Hnil'.out (Hr'.out.below Hb4.out (Nat.le_refl _)) (v8_one _) (by unfold maxLen; omega) (by omega) (by omega) ?_)))
    intro v5 w5 hown5 hg5
    rw [show ((Vi.form n').map V8 ++ ((Vi.putL f l).map V8 ++ bs.map V8)) = (Vi.form n' ++ Vi.putL f l ++ bs).map V8 by simp] at hown5
    obtain ⟨A5, cap5, rfl, hc5, hm5, _⟩ := own_form hown5
    have hs5 : w4.heap.size ≤ w5.heap.size := hg5.size
    have hb5 := Hbb4.out.trans (grown_below Hown4.out hg5 (by omega))
    have Hb5 := Lib.hid (Hb3.out.trans (hb5.mono (by omega))); have Hown5 := Lib.hid hown5
    have Bc5 := Lib.hid hb5
    obtain ⟨full, hfull⟩ : ∃ x, x = Vi.form n' ++ Vi.putL f l ++ bs := ⟨_, rfl⟩
    rw [← hfull] at Hown5
    have hfl : n4 + n' = full.length := by rw [hfull, List.length_append, ← Hn4.out, ← Hn'.out]
    obtain ⟨e1, e2, e3⟩ := Vi.form_num n' (Vi.putL f l ++ bs) (by omega)
    rw [← List.append_assoc, ← hfull] at e1 e2 e3
    have e4 : full.drop n3 = Vi.putL f l ++ bs := by rw [hfull, List.append_assoc, List.drop_left' Hn3.out.symm]
    rw [← Vi.form_length, ← Hn3.out] at e3
    have e5 := Vi.rdL_put l f bel bs Hok.out (by rw [← Hm.out]; omega) (fun x hx => by have := Hlb.out x hx; omega)
    rw [← e4] at e5
    have e6 : n4 = n3 + (Vi.putL f l).length := by rw [Hn4.out, List.length_append, ← Hn3.out]
    have E1 := Lib.hid e1; have E2 := Lib.hid e2; have E3 := Lib.hid e3; have E5 := Lib.hid e5; have E6 := Lib.hid e6; have Hfl := Lib.hid hfl
    clear hown5 hg5 hb5 hfull hfl e1 e2 e3 e4 e5 e6 Hbb4 Hown4
    obtain ⟨N, hN⟩ : ∃ N, N = n4 + n' := ⟨_, rfl⟩
    rw [← hN] at Hown5 Hfl ⊢
    have hNb : N ≤ 70000 := by omega
    have HN := Lib.hid hN
    clear hN
    go_wp2_with fail
    refine (newReader_calls A5 N cap5 w5.heap.size full w5 Hfl.out (by omega) (Nat.le_refl _) (own_rd Hown5.out)).mono ?_
    rintro e w6 ⟨g, A6, cap6, rfl, hr6, hb6⟩
    have hs6 := hb6.size
    have hg6 : w5.heap.size ≤ g := hr6.2.2.2.2
    have Hb6 := Lib.hid (Hb5.out.trans (hb6.mono (by omega))); have Hr6 := Lib.hid hr6
    have Bc6 := Lib.hid (Bc5.out.trans (hb6.mono (by omega)))
    clear hb6 hr6 Bc5 Hown5
    have q0 : ((n' : Int) != (n' : Int)) = false := by simp
    clear HC
    go_wp2_with fail
    refine (int_calls g A6 N cap6 0 _ full 0 w6 Hr6.out (by omega)).mono ?_
    rintro e w7 ⟨rfl, hu7, hr7⟩
    obtain ⟨s1, s2, s3⟩ := Vi.iX_zero full 0
    rw [List.drop_zero, Nat.zero_add, E3.out] at s2
    rw [List.drop_zero, E2.out] at s1
    rw [List.drop_zero, E1.out] at s3
    rw [s2, s3] at hr7
    rw [s1]
    clear s1 s2 s3
    have Hb7 := Lib.hid (Hb6.out.trans (hu7.below (by omega) Hb6.out.size)); have Hr7 := Lib.hid hr7
    have hg7 : w5.heap.size ≤ g := hr7.2.2.2.2
    have Bc7 := Lib.hid (Bc6.out.trans (hu7.below (by omega) (by omega)))
    clear hu7 hr7 Hr6 Bc6 E1 E2 E3
    have hs7 := Hb7.out.size
    go_wp2_with fail
    refine (List_calls g A6 N cap6 n3 _ full 0 f bel w7 Hr7.out (by omega) (by omega) hbb.2 hbb.1).mono ?_
    rintro e w8 ⟨hu8, A8, n8, cap8, rfl, hn8, hown8, hr8⟩
    obtain ⟨s1, s2, s3⟩ := i16s full n3 f bel
    rw [s1] at hn8 hown8
    rw [s2, s3] at hr8
    have hg8 : w5.heap.size ≤ g := hr8.2.2.2.2
    have Bc8 := Lib.hid (Bc7.out.trans (hu8.below (by omega) (by have := Bc7.out.size; omega)))
    have Hb8 := Lib.hid (Hb7.out.trans (hu8.below (by omega) Hb7.out.size)); have Hr8 := Lib.hid hr8; have Hown8 := Lib.hid hown8; have Hn8 := Lib.hid hn8
    clear hu8 hr8 hown8 hn8 Hr7 Bc7 s1 s2 s3
    have hs8 := Hb8.out.size
    have Hl8 := Lib.hid (own_below Hown23.out Bc8.out (Nat.le_refl _))
    go_wp2_with fail
    refine (err_calls g A6 N cap6 _ _ full _ w8 Hr8.out).mono ?_
    rintro e w9 ⟨rfl, k9, rfl⟩
    have Hb9 := Lib.hid (below_drewN Hb8.out k9)
    have Hr9 := Lib.hid (RdrIs.below Hr8.out (below_drewN (Below.refl _ _) k9))
    have Hown9 := Lib.hid (own_below Hown8.out (below_drewN (Below.refl _ _) k9) (Nat.le_refl _))
    have Hl9 := Lib.hid (own_below Hl8.out (below_drewN (Below.refl _ _) k9) (Nat.le_refl _))
    clear Hr8 Hb8 Hown8 Hl8 Bc8 Hown23
    generalize w8.drewN k9 = w9 at *
    by_cases hall : ∀ x ∈ l, x < bel
    · rw [if_pos hall] at E5
      rw [E5.out] at Hr9 Hown9 Hn8 ⊢
      have Hr9 : Hid (RdrIs 68 w9 w5.heap.size g A6 N cap6 full n4 0) := Lib.hid (by rw [E6.out]; exact Hr9.out)
      have hend2 : n3 + (l, (Vi.putL f l).length, (0 : Int)).2.1 = n4 := E6.out.symm
      rw [hend2]
      have Hlf := Lib.hid (show lft full n4 0 = (n' : Int) by unfold lft; rw [if_pos rfl, ← Hfl.out, HN.out]; omega)
      obtain rfl : n8 = m := by rw [Hn8.out, Hm.out]
      obtain ⟨r1, r2⟩ := own_cap Hown9.out
      unfold maxLen at r2
      have Hl9r := Lib.hid (own_rd Hl9.out)
      clear E5 hend2 Hl9
      have Hsame := Lib.hid (sameI_calls A8 A2 n8 cap8 n8 cap2 w9.heap.size w9.heap.size l l w9 Hm.out Hm.out r1 p1 (by unfold maxLen; omega) (by unfold maxLen; omega) (own_rd Hown9.out) Hl9r.out)
      rcases n8 with _ | j
      · go_wp2_with fail
        refine Hsame.out.mono ?_
        rintro e w' ⟨rfl, kk, rfl⟩
        have Hr10 := Lib.hid (RdrIs.below Hr9.out (below_drewN (Below.refl _ _) kk))
        have Hb10 := Lib.hid (below_drewN Hb9.out kk)
        go_wp2_with (first
          | (go_at_call 30; refine (num_calls 0 _ (by omega) (by omega)).mono ?_; rintro e w' ⟨rfl, rfl⟩)
          | (go_at_call 33; refine (left_calls g A6 N cap6 _ _ full _ _ Hr10.out (by omega)).mono ?_; rintro e w' ⟨rfl, kk2, rfl⟩; rw [Hlf.out]))
        go_ret
        exact ⟨rfl, below_drewN Hb9.out (kk + kk2)⟩
      · obtain ⟨z, hz⟩ : ∃ z, l[j]? = some z := ⟨l[j]'(by rw [← Hm.out]; omega), List.getElem?_eq_getElem _⟩
        obtain ⟨b, off, rfl, _, hcz⟩ := rd_get Hl9r.out hz
        have hzb : ¬ bel ≤ z := by have := hall z (List.mem_of_getElem? hz); omega
        have hj1 : (((j : Int) + 1) - 1) = (j : Int) := by omega
        have hj0 : (0 : Int) < (j : Int) + 1 := by omega
        clear hall hz
        go_wp2_with fail
        refine Hsame.out.mono ?_
        rintro e w' ⟨rfl, kk, rfl⟩
        have Hr10 := Lib.hid (RdrIs.below Hr9.out (below_drewN (Below.refl _ _) kk))
        have Hb10 := Lib.hid (below_drewN Hb9.out kk)
        go_wp2_with (first
          | (go_at_call 30; refine (num_calls 0 _ (by omega) (by omega)).mono ?_; rintro e w' ⟨rfl, rfl⟩)
          | (go_at_call 33; refine (left_calls g A6 N cap6 _ _ full _ _ Hr10.out (by omega)).mono ?_; rintro e w' ⟨rfl, kk2, rfl⟩; rw [Hlf.out]))
        go_ret
        exact ⟨rfl, below_drewN Hb9.out (kk + kk2)⟩
    · rw [if_neg hall] at E5
      rw [E5.out] at Hr9 Hown9 Hn8 ⊢
      have Hr9 : Hid (RdrIs 68 w9 w5.heap.size g A6 N cap6 full n3 13) := Hr9
      have hend2 : n3 + (([] : List Int), (0 : Nat), (13 : Int)).2.1 = n3 := rfl
      rw [hend2]
      clear hend2
      obtain ⟨j, rfl⟩ : ∃ j, m = j + 1 := by
        rcases m with _ | j
        · exact absurd (fun x hx => by rw [List.eq_nil_of_length_eq_zero Hm.out.symm] at hx; cases hx) hall
        · exact ⟨j, rfl⟩
      obtain ⟨z, hz⟩ : ∃ z, l[j]? = some z := ⟨l[j]'(by rw [← Hm.out]; omega), List.getElem?_eq_getElem _⟩
      obtain ⟨b, off, rfl, _, hcz⟩ := rd_get (own_rd Hl9.out) hz
      have hzb : bel ≤ z := by
        have : ¬ z < bel := fun h => hall ((Vi.last_below l f bel z Hri.out (by rw [← Hm.out]; exact hz)).2 h)
        omega
      obtain rfl : n8 = 0 := Hn8.out
      have Hlf := Lib.hid (show lft full n3 13 = 0 from if_neg (by decide))
      have hj1 : (((j : Int) + 1) - 1) = (j : Int) := by omega
      have hj0 : (0 : Int) < (j : Int) + 1 := by omega
      clear hall E5 Hown9 Hn8 E6 hz
      go_wp2_with (first
        | (go_at_call 30; refine (num_calls 13 _ (by omega) (by omega)).mono ?_; rintro e w' ⟨rfl, rfl⟩)
        | (go_at_call 33; refine (left_calls g A6 N cap6 _ _ full _ _ Hr9.out (by omega)).mono ?_; rintro e w' ⟨rfl, kk2, rfl⟩; rw [Hlf.out]))
      go_ret
      exact ⟨rfl, below_drewN Hb9.out kk2⟩
  · have hbi : (65536 : Int) < (n' : Int) := by omega
    go_wp2_with fail
    go_ret
    exact ⟨rfl, Hb1.out⟩
end Go.Proofs.Ytkohakogknodeaa
