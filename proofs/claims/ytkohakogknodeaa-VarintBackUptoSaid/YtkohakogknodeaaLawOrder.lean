/- VarintOrder: the walk -/
import Derived.Test.YtkohakogknodeaaLawGaps
namespace Go.Proofs.Ytkohakogknodeaa
open Go.ChangeShapes Go.WideShapes Go.ChangeAt Go.RowKit
set_option linter.unusedSimpArgs false
set_option linter.unusedVariables false
namespace Vi
theorem grp_cmp (x n : Nat) : (grp x n).toNat = x / 128 ^ n % 128 + (if n = 0 then 0 else 128) := by
  by_cases h : n = 0
  · subst h; rw [grp_zero]; simp
  · rw [grp_pos x n h, if_neg h]
theorem less_down (x y : Nat) : ∀ n, x / 128 ^ n = y / 128 ^ n → Op.bytesLess ((down x n).map UInt8.ofBitVec) ((down y n).map UInt8.ofBitVec) = decide (x < y)
  | 0, h => by
    simp at h; subst h; simp [down, Op.bytesLess]
  | n + 1, h => by
    rw [Nat.pow_succ, ← Nat.div_div_eq_div_mul, ← Nat.div_div_eq_div_mul] at h
    show Op.bytesLess (UInt8.ofBitVec (grp x n) :: _) (UInt8.ofBitVec (grp y n) :: _) = _
    have p : 0 < 128 ^ n := Nat.pow_pos (by decide)
    have gx := grp_cmp x n; have gy := grp_cmp y n
    have lt_iff : (UInt8.ofBitVec (grp x n) < UInt8.ofBitVec (grp y n)) ↔ x / 128 ^ n < y / 128 ^ n := by
      show (grp x n).toNat < (grp y n).toNat ↔ _
      rw [gx, gy]; omega
    have eq_iff : (UInt8.ofBitVec (grp x n) = UInt8.ofBitVec (grp y n)) ↔ x / 128 ^ n = y / 128 ^ n := by
      constructor
      · intro e
        have e2 : (grp x n).toNat = (grp y n).toNat := congrArg UInt8.toNat e
        rw [gx, gy] at e2; omega
      · intro e
        have e2 : (grp x n).toNat = (grp y n).toNat := by rw [gx, gy, e]
        rw [BitVec.eq_of_toNat_eq e2]
    rw [Op.bytesLess]
    by_cases h1 : x / 128 ^ n < y / 128 ^ n
    · have h2 : x < y := by
        apply Decidable.byContradiction
        intro hc
        have := Nat.div_le_div_right (c := 128 ^ n) (show y ≤ x by omega)
        omega
      rw [decide_eq_true (lt_iff.2 h1), decide_eq_true h2]; rfl
    · by_cases h3 : x / 128 ^ n = y / 128 ^ n
      · rw [decide_eq_false (fun h => h1 (lt_iff.1 h)), less_down x y n h3, eq_iff.2 h3]; simp
      · have h4 : ¬ x < y := fun hc => by
          have := Nat.div_le_div_right (c := 128 ^ n) (show x ≤ y by omega)
          omega
        rw [decide_eq_false (fun h => h1 (lt_iff.1 h)), decide_eq_false h4, beq_eq_false_iff_ne.2 (fun h => h3 (eq_iff.1 h))]; rfl
theorem less_form (x y : Nat) (h : len x = len y) : Op.bytesLess (strOf (form x)).toList (strOf (form y)).toList = decide (x < y) := by
  rw [strOf_toList, strOf_toList]
  unfold form
  rw [← h]
  refine less_down x y _ ?_
  rw [Nat.div_eq_of_lt (len_bound x), Nat.div_eq_of_lt (by rw [h]; exact len_bound y)]
theorem form_inj {x y : Nat} (r s : List (BitVec 8)) (hx : x < 9223372036854775808) (hy : y < 9223372036854775808) (h : form x ++ r = form y ++ s) : x = y := by
  have h1 := (form_num x r hx).2.1
  have h2 := (form_num y s hy).2.1
  rw [h] at h1
  exact h1.symm.trans h2
theorem eq_form (x y : Nat) (hx : x < 9223372036854775808) (hy : y < 9223372036854775808) : ((strOf (form x)).toList == (strOf (form y)).toList) = decide (x = y) := by
  rw [str_eq]
  by_cases h : x = y
  · subst h; simp
  · rw [decide_eq_false h, decide_eq_false (fun e => h (form_inj [] [] hx hy (by rw [e])))]
theorem form_take {x y n : Nat} (hx : x < 9223372036854775808) (hy : y < 9223372036854775808) (hxy : x ≠ y) (hn : n = len x ∨ n = len y) : (form x).take n ≠ (form y).take n := by
  intro e
  rcases hn with rfl | rfl
  · rw [List.take_of_length_le (by rw [form_length]; exact Nat.le_refl _)] at e
    exact hxy (form_inj ((form y).drop (len x)) [] hx hy (by rw [e, List.take_append_drop, List.append_nil]))
  · rw [List.take_of_length_le (l := form y) (by rw [form_length]; exact Nat.le_refl _)] at e
    exact hxy (form_inj [] ((form x).drop (len y)) hx hy (by rw [← e, List.take_append_drop, List.append_nil]))
theorem len_lt_of {x y : Nat} (h : len x < len y) : x < y := by
  apply Decidable.byContradiction
  intro hc
  have := len_mono (show y ≤ x by omega)
  omega
end Vi
theorem own_some1 {w : World} {base : Nat} {t : TypeId} {A : Option Addr} {n cap : Nat} {xs : List Value} (h : w.ownsRow base t 1 (.slice A n cap) n xs) (hn : 1 ≤ n) : ∃ g, A = some ⟨g, 0, none⟩ := by
  rcases h.2 with ⟨_, h⟩ | ⟨g, _, _, h, _⟩
  · omega
  · injection h with h; exact ⟨g, h⟩
theorem quiet_unlike (cap cap' B B' m j : Nat) (bs bs' : List (BitVec 8)) (w : World) (h1 : m ≤ bs.length) (h2 : m ≤ bs'.length) (g : Nat) (g' : Nat)
    (hr : Rd w B (some ⟨g, 0, none⟩) (bs.map V8)) (hr' : Rd w B' (some ⟨g', 0, none⟩) (bs'.map V8)) (hne : bs.take m ≠ bs'.take m) :
    Calls Try.prog 15 #[.slice (some ⟨g, 0, none⟩) m cap, .slice (some ⟨g', 0, none⟩) m cap'] (w.drewN j) fun e w'' => e = .returned (.bool false) ∧ ∃ k, w'' = w.drewN k := by
  refine (same_calls _ _ m cap m cap' B B' (bs.take m) (bs'.take m) (w.drewN j) (by rw [List.length_take]; omega) (by rw [List.length_take]; omega) (by intro h; cases h) (by intro h; cases h) ((rd_pre m hr).below (below_drewN (Below.refl _ _) j) (Nat.le_refl _)) ((rd_pre m hr').below (below_drewN (Below.refl _ _) j) (Nat.le_refl _))).mono ?_
  rintro e w' ⟨rfl, rfl⟩
  exact ⟨by rw [decide_eq_false hne], j, rfl⟩
set_option maxHeartbeats 4000000 in
set_option maxRecDepth 20000 in
theorem law_order (x y : Int) (w : World) (hx : (Lit.int .i64 x).wf = true) (hy : (Lit.int .i64 y).wf = true) :
    Calls Try.prog 7 #[.int .i64 x, .int .i64 y] w fun e w' => e = .returned (.bool true) ∧ Below w.heap.size w w' := by
  have hxb := bounds_i64 hx
  have hyb := bounds_i64 hy
  clear hx hy
  go_enter Try.func7, Try.ntmps7
  go_wp2_with fail
  refine (first_calls w).mono ?_
  rintro e w1 ⟨rfl, hb1⟩
  have hs1 := hb1.size
  have Hb1 := Lib.hid hb1
  clear hb1
  by_cases hx0 : x < 0
  · go_wp2_with fail
    go_ret
    exact ⟨rfl, Hb1.out⟩
  · by_cases hy0 : y < 0
    · go_wp2_with fail
      go_ret
      exact ⟨rfl, Hb1.out⟩
    · obtain ⟨X, rfl⟩ : ∃ X : Nat, x = (X : Int) := ⟨x.toNat, by omega⟩
      obtain ⟨Y, rfl⟩ : ∃ Y : Nat, y = (Y : Int) := ⟨y.toNat, by omega⟩
      have hX : X < 9223372036854775808 := by omega
      have hY : Y < 9223372036854775808 := by omega
      go_wp2_with fail
      refine (Put_calls none 0 0 w1.heap.size [] (X : Int) w1 (by omega) rfl (by decide) (Nat.le_refl _) (Rd.nil _ _ _)).mono ?_
      rintro e w2 ⟨A2, n2, cap2, rfl, hn2, hown2, hb2⟩
      rw [List.nil_append, Int.toNat_natCast] at hn2 hown2
      have h21 := Vi.len_pos X
      have h29 := Vi.len_nine hX
      rw [Vi.form_length] at hn2
      rw [← hn2] at h21 h29
      have hs2 := hb2.size
      obtain ⟨p1, p2⟩ := own_cap hown2
      unfold maxLen at p2
      obtain ⟨g2, rfl⟩ := own_some1 hown2 h21
      have Hb2 := Lib.hid (Hb1.out.trans (hb2.mono hs1)); have Hown2 := Lib.hid hown2; have Hn2 := Lib.hid hn2
      clear hb2 hown2 hn2
      go_wp2_with fail
      refine (Put_calls none 0 0 w2.heap.size [] (Y : Int) w2 (by omega) rfl (by decide) (Nat.le_refl _) (Rd.nil _ _ _)).mono ?_
      rintro e w3 ⟨A3, n3, cap3, rfl, hn3, hown3, hb3⟩
      rw [List.nil_append, Int.toNat_natCast] at hn3 hown3
      have h31 := Vi.len_pos Y
      have h39 := Vi.len_nine hY
      rw [Vi.form_length] at hn3
      rw [← hn3] at h31 h39
      have hs3 := hb3.size
      obtain ⟨q1, q2⟩ := own_cap hown3
      unfold maxLen at q2
      obtain ⟨g3, rfl⟩ := own_some1 hown3 h31
      have Hown23 := Lib.hid (own_below Hown2.out hb3 (Nat.le_refl _))
      have Hb3 := Lib.hid (Hb2.out.trans (hb3.mono (by omega))); have Hown3 := Lib.hid hown3; have Hn3 := Lib.hid hn3
      clear hb3 hown3 hn3 Hown2
      by_cases hl : n2 = n3
      · subst hl
        have hle := Vi.less_form X Y (by rw [← Hn2.out, ← Hn3.out])
        have heq := Vi.eq_form X Y hX hY
        have hr2 := str_run (cap := cap2) (show n2 = (Vi.form X).length by rw [Vi.form_length]; exact Hn2.out) (by intro h; cases h) (own_rd Hown23.out)
        have hr3 := str_run (cap := cap3) (show n2 = (Vi.form Y).length by rw [Vi.form_length]; exact Hn3.out) (by intro h; cases h) (own_rd Hown3.out)
        have e1 : decide (X < Y) = decide ((X : Int) < (Y : Int)) := by simp
        have e2 : decide (X = Y) = ((X : Int) == (Y : Int)) := by by_cases h : X = Y <;> simp [h]; omega
        rw [e1] at hle
        rw [e2] at heq
        clear e1 e2
        by_cases hlt : (X : Int) < (Y : Int)
        · rw [decide_eq_true hlt] at hle
          have hne : ((X : Int) == (Y : Int)) = false := by rw [beq_eq_false_iff_ne]; omega
          rw [hne] at heq
          go_wp2_with fail
          go_ret
          exact ⟨rfl, Hb3.out⟩
        · rw [decide_eq_false hlt] at hle
          go_wp2_with fail
          go_ret
          exact ⟨by simp [hle, heq]; omega, Hb3.out⟩
      · have hxy : X ≠ Y := fun e => hl (by rw [Hn2.out, Hn3.out, e])
        have l0 : ((n2 : Int) != (n3 : Int)) = true := by rw [bne_iff_ne]; omega
        by_cases hgt : n3 < n2
        · have l1 : (n3 : Int) < (n2 : Int) := by omega
          have hXY : Y < X := Vi.len_lt_of (by rw [← Hn2.out, ← Hn3.out]; exact hgt)
          have l2 : ¬ (X : Int) < (Y : Int) := by omega
          have l3 : ¬ (n2 : Int) < (n3 : Int) := by omega
          have l4 : (n3 : Int) ≤ (cap2 : Int) := by omega
          have l5 : (n3 : Int) ≤ (cap3 : Int) := by omega
          have HT := Lib.hid (Vi.form_take (n := n3) hX hY hxy (Or.inr Hn3.out))
          have L2 := Lib.hid (show n3 ≤ (Vi.form X).length by rw [Vi.form_length, ← Hn2.out]; omega)
          have L3 := Lib.hid (show n3 ≤ (Vi.form Y).length by rw [Vi.form_length, ← Hn3.out]; omega)
          go_wp2_with fail
          go_quiet ((go_at_call 15; exact quiet_unlike _ _ _ _ _ _ (Vi.form X) (Vi.form Y) _ L2.out L3.out _ _ (own_rd Hown23.out) (own_rd Hown3.out) HT.out))
          go_wp2_with fail
          go_ret
          exact ⟨by show Ending.returned (.bool (decide (n2 < n3) == decide (X < Y))) = _; rw [decide_eq_false (by omega), decide_eq_false (by omega)]; rfl, below_drewN Hb3.out nq⟩
        · have l1 : ¬ (n3 : Int) < (n2 : Int) := by omega
          have hXY : X < Y := Vi.len_lt_of (by rw [← Hn2.out, ← Hn3.out]; omega)
          have l2 : (X : Int) < (Y : Int) := by omega
          have l3 : (n2 : Int) < (n3 : Int) := by omega
          have l4 : (n2 : Int) ≤ (cap2 : Int) := by omega
          have l5 : (n2 : Int) ≤ (cap3 : Int) := by omega
          have HT := Lib.hid (Vi.form_take (n := n2) hX hY hxy (Or.inl Hn2.out))
          have L2 := Lib.hid (show n2 ≤ (Vi.form X).length by rw [Vi.form_length, ← Hn2.out]; omega)
          have L3 := Lib.hid (show n2 ≤ (Vi.form Y).length by rw [Vi.form_length, ← Hn3.out]; omega)
          go_wp2_with fail
          go_quiet ((go_at_call 15; exact quiet_unlike _ _ _ _ _ _ (Vi.form X) (Vi.form Y) _ L2.out L3.out _ _ (own_rd Hown23.out) (own_rd Hown3.out) HT.out))
          go_wp2_with fail
          go_ret
          exact ⟨rfl, below_drewN Hb3.out nq⟩
end Go.Proofs.Ytkohakogknodeaa
