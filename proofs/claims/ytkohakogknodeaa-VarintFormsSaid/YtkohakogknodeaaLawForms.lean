/- VarintForms: the walk -/
import Derived.Test.YtkohakogknodeaaLawPuts
namespace Go.Proofs.Ytkohakogknodeaa
open Go.ChangeShapes Go.WideShapes Go.ChangeAt Go.RowKit
set_option linter.unusedSimpArgs false
set_option linter.unusedVariables false
theorem down_get (X : Nat) : ∀ (n i : Nat), i < n → (Vi.down X n)[i]? = some (Vi.grp X (n - 1 - i))
  | 0, i, h => by omega
  | n + 1, 0, _ => rfl
  | n + 1, i + 1, h => by
    show (Vi.down X n)[i]? = _
    rw [down_get X n i (by omega)]; congr 2; omega
theorem form_get (X i : Nat) (h : i < Vi.len X) : (Vi.form X)[i]? = some (Vi.grp X (Vi.len X - 1 - i)) := down_get X _ i h
theorem grp_small (X j : Nat) : (decide ((n8 (Vi.grp X j) : Int) < 128)) = decide (j = 0) := by
  by_cases h : j = 0
  · subst h
    have := Vi.grp_zero X
    rw [decide_eq_true rfl, decide_eq_true]; unfold n8; omega
  · have := Vi.grp_pos X j h
    rw [decide_eq_false h, decide_eq_false]; unfold n8; omega
set_option maxHeartbeats 4000000 in
set_option maxRecDepth 20000 in
theorem law_forms (x : Int) (w : World) (hx : (Lit.int .i64 x).wf = true) :
    Calls Try.prog 6 #[.int .i64 x] w fun e w' => e = .returned (.bool true) ∧ Below w.heap.size w w' := by
  have hxb := bounds_i64 hx
  clear hx
  go_enter Try.func6, Try.ntmps6
  go_wp2_with fail
  refine (first_calls w).mono ?_
  rintro e w1 ⟨rfl, hb1⟩
  have hs1 := hb1.size
  have Hb1 := Lib.hid hb1
  clear hb1
  go_wp2_with fail
  refine (Put_calls none 0 0 w1.heap.size [] x w1 hxb.2 rfl (by decide) (Nat.le_refl _) (Rd.nil _ _ _)).mono ?_
  rintro e w2 ⟨A2, L, cap2, rfl, hL, hown2, hb2⟩
  rw [List.nil_append] at hL hown2
  obtain ⟨X, hX⟩ : ∃ X, X = x.toNat := ⟨_, rfl⟩
  rw [← hX] at hL hown2
  have hX63 : X < 9223372036854775808 := by omega
  have hxx : (x < 0 ∧ X = 0) ∨ (¬ x < 0 ∧ x = (X : Int)) := by omega
  rw [Vi.form_length] at hL
  have hL1 := Vi.len_pos X
  have hL9 := Vi.len_nine hX63
  rw [← hL] at hL1 hL9
  have Hb2 := Lib.hid (Hb1.out.trans (hb2.mono hs1)); have Hown2 := Lib.hid hown2; have HL := Lib.hid hL
  obtain ⟨p1, p2⟩ := own_cap hown2
  unfold maxLen at p2
  obtain ⟨g, rfl, _⟩ : ∃ g, A2 = some ⟨g, 0, none⟩ ∧ True := by
    rcases hown2.2 with ⟨_, h⟩ | ⟨g, _, _, h, _⟩
    · omega
    · injection h with h; exact ⟨g, h, trivial⟩
  clear hb2 hown2 hL hX
  go_upto_if 15 with fail
  go_cut [0] (fun x' w' => x' = .int .i64 (X : Int) ∧ w2 = w')
  case first =>
    rcases hxx with ⟨a, b⟩ | ⟨a, b⟩
    · go_wp2_with fail
      go_meet
      exact ⟨by rw [b]; rfl, rfl⟩
    · have Hb := Lib.hid b
      clear b
      go_wp2_with fail
      go_meet
      exact ⟨by rw [← Hb.out], rfl⟩
  case rest =>
    obtain ⟨rfl, rfl⟩ := hcut
    clear hxx
    have hcell : ∀ i, i < L → w2.cell? ⟨g, i, none⟩ = some (V8 (Vi.grp X (L - 1 - i))) := fun i hi => by
      obtain ⟨b, off, e, _, hc⟩ := own_rd Hown2.out i _ (by rw [List.getElem?_map, form_get X i (by rw [← HL.out]; exact hi)]; rfl)
      injection e with e; injection e with e1 e2; subst e1; subst e2
      rw [Nat.zero_add, ← HL.out] at hc; exact hc
    have hc0 := hcell 0 (by omega)
    have hh := Vi.form_head X []
    have h128 : ((n8 (Vi.grp X (L - 1 - 0)) : Int) == 128) = false := by
      rw [beq_eq_false_iff_ne]; intro h; apply hh
      rw [List.append_nil, List.head?_eq_getElem?, form_get X 0 (by rw [← HL.out]; omega), ← HL.out]
      congr 1; exact n8_inj (by show n8 _ = 128; omega)
    have Hcell := Lib.hid hcell
    obtain ⟨c0, hc00⟩ : ∃ c, c = Vi.grp X (L - 1 - 0) := ⟨_, rfl⟩
    rw [← hc00] at hc0 h128
    have q1 : ¬ (L : Int) < 1 := by omega
    have q2 : ¬ (9 : Int) < (L : Int) := by omega
    have q3 : (0 : Int) < (L : Int) := by omega
    have q4 : ((L : Int) != (L : Int)) = false := by simp
    clear hcell hh hc00
    go_wp2_with (go_at_call 18; refine (len_calls (X : Int) _ (by omega)).mono ?_; rintro e w' ⟨rfl, rfl⟩; rw [Int.toNat_natCast, ← HL.out])
    go_loopw [6, 7] (fun s i wr => ∃ (a S : Nat), i = .int .i64 (a : Int) ∧ s = .int .i64 (S : Int) ∧ a ≤ L ∧ S = Vi.val ((Vi.form X).take a) ∧ w2 = wr) (fun _ i _ => L - (intOf i).toNat)
    case atStart => exact ⟨0, 0, rfl, rfl, by omega, by simp [Vi.val, Vi.valA], rfl⟩
    case round =>
      obtain ⟨a, S, rfl, rfl, ha, hS, rfl⟩ := hrel
      have HS := Lib.hid hS; clear hS
      by_cases hlt : a < L
      · have l1 : (a : Int) < (L : Int) := by omega
        have hca := Hcell.out a hlt
        obtain ⟨c, hc⟩ : ∃ c, c = Vi.grp X (L - 1 - a) := ⟨_, rfl⟩
        rw [← hc] at hca
        have hb2 : decide ((n8 c : Int) < 128) = decide (L - 1 - a = 0) := by rw [hc]; exact grp_small X _
        have hb1 : ((a : Int) == (L : Int) - 1) = decide (L - 1 - a = 0) := by
          rw [Bool.eq_iff_iff, beq_iff_eq, decide_eq_true_eq]; omega
        have hget : (Vi.form X)[a]? = some c := by rw [form_get X a (by rw [← HL.out]; exact hlt), hc, ← HL.out]
        have hS56 : S < 72057594037927936 := by rw [HS.out]; exact Vi.val_take_lt _ a (by omega)
        obtain ⟨Y, hY⟩ : ∃ Y, Y = S * 128 + c.toNat % 128 := ⟨_, rfl⟩
        have HYv := Lib.hid (show Y = Vi.val ((Vi.form X).take (a + 1)) by rw [hY, HS.out, ← Vi.val_take_succ _ a c hget])
        have HY := Lib.hid hY
        clear hY hget hc
        generalize decide (L - 1 - a = 0) = bb at hb1 hb2
        cases bb with
        | false =>
          have l2 : ¬ (n8 c : Int) < 128 := by simpa using hb2
          clear hb2
          go_wp2_with fail
          refine ⟨⟨a + 1, Y, by congr 1, ?_, by omega, HYv.out, trivial⟩, by simp [intOf]; omega⟩
          rw [HY.out]; unfold n8; congr 1
        | true =>
          have l2 : (n8 c : Int) < 128 := by simpa using hb2
          clear hb2
          go_wp2_with fail
          refine ⟨⟨a + 1, Y, by congr 1, ?_, by omega, HYv.out, trivial⟩, by simp [intOf]; omega⟩
          rw [HY.out]; unfold n8; congr 1
      · obtain rfl : a = L := by omega
        have hSX : S = X := by
          rw [HS.out, List.take_of_length_le (by rw [Vi.form_length, HL.out]; exact Nat.le_refl _), Vi.val_form]
        have hfin : ((S : Int) == (X : Int)) = true := by rw [hSX]; simp
        clear hSX
        go_wp2_with fail
        go_ret
        exact ⟨rfl, Hb2.out⟩
end Go.Proofs.Ytkohakogknodeaa
