/- put, Put of both -/
import Derived.Test.YtkohakogknodeaaVPut
namespace Go.Proofs.Ytkohakogknodeaa
open Go.RowKit
set_option linter.unusedSimpArgs false
set_option linter.unusedVariables false
theorem and127 (m : Nat) (h : m < 256) : bits .and .u8 (m : Int) 127 = ((m % 128 : Nat) : Int) := by
  have : ∀ m : Fin 256, bits .and .u8 (m.val : Int) 127 = ((m.val % 128 : Nat) : Int) := by decide +kernel
  exact this ⟨m, h⟩
theorem or128 (m : Nat) (h : m < 128) : bits .or .u8 (m : Int) 128 = ((m + 128 : Nat) : Int) := by
  have : ∀ m : Fin 128, bits .or .u8 (m.val : Int) 128 = ((m.val + 128 : Nat) : Int) := by decide +kernel
  exact this ⟨m, h⟩
theorem byte_of (X j : Nat) : (X : Int) / 2 ^ (7 * j) % 256 = ((X / 128 ^ j % 256 : Nat) : Int) := by
  rw [Vi.pow7]; simp
theorem and_grp (X j : Nat) : bits .and .u8 ((X : Int) / 2 ^ (7 * j) % 256) 127 = ((X / 128 ^ j % 128 : Nat) : Int) := by
  rw [byte_of, and127 _ (Nat.mod_lt _ (by decide))]; congr 1; omega
theorem grp_top (X j : Nat) : bits .or .u8 (bits .and .u8 ((X : Int) / 2 ^ (7 * (j + 1)) % 256) 127) 128 = (n8 (Vi.grp X (j + 1)) : Int) := by
  rw [and_grp, or128 _ (Nat.mod_lt _ (by decide))]
  unfold n8; rw [Vi.grp_pos _ _ (by omega)]
theorem grp_low (X : Nat) : bits .and .u8 ((X : Int) % 256) 127 = (n8 (Vi.grp X 0) : Int) := by
  have := and_grp X 0
  simp at this
  rw [this]; unfold n8; rw [Vi.grp_zero]; simp
theorem and64 (m : Nat) (h : m < 9223372036854775808) : bits .and .i64 (m : Int) 127 = ((m % 128 : Nat) : Int) := by
  have e : bits .and .i64 (m : Int) 127 = IntKind.i64.wrap ((BitVec.ofInt 64 (m : Int) &&& BitVec.ofInt 64 127).toNat : Int) := rfl
  have e2 : (BitVec.ofInt 64 (m : Int) &&& BitVec.ofInt 64 127).toNat = m % 128 := by
    rw [BitVec.toNat_and, BitVec.ofInt_natCast, BitVec.toNat_ofNat, Nat.mod_eq_of_lt (by omega), show (BitVec.ofInt 64 127).toNat = 2 ^ 7 - 1 by decide, Nat.and_two_pow_sub_one_eq_mod]
  rw [e, e2]
  have := Nat.mod_lt m (show 128 > 0 by decide)
  exact IntWalk.i64_in _ (by omega)
theorem rgrp_low (X : Nat) (h : X < 9223372036854775808) : bits .and .i64 (X : Int) 127 % 256 = (n8 (Vi.grp X 0) : Int) := by
  rw [and64 X h]; unfold n8; rw [Vi.grp_zero]; omega
theorem rgrp_top (X j : Nat) (h : X < 9223372036854775808) : (bits .and .i64 ((X : Int) / 2 ^ (7 * (j + 1))) 127 + 128) % 256 = (n8 (Vi.grp X (j + 1)) : Int) := by
  have e : (X : Int) / 2 ^ (7 * (j + 1)) = ((X / 128 ^ (j + 1) : Nat) : Int) := by rw [Vi.pow7]; simp
  rw [e, and64 _ (Nat.lt_of_le_of_lt (Nat.div_le_self _ _) h)]
  unfold n8; rw [Vi.grp_pos _ _ (by omega)]; omega
set_option maxHeartbeats 1000000 in
theorem put_calls (A : Option Addr) (n cap base : Nat) (bs : List (BitVec 8)) (x : Int) (w : World) (hx : x ≤ 9223372036854775807) (hn : n = bs.length) (hm : n ≤ 140737488351232) (hB : base ≤ w.heap.size) (hown : w.ownsRow base 5 1 (.slice A n cap) n (bs.map V8)) :
    Calls Try.prog 36 #[.slice A n cap, .int .i64 x] w fun e w' => ∃ A' n' cap', e = .returned (.slice A' n' cap') ∧ n' = (bs ++ Vi.form x.toNat).length ∧ w'.ownsRow base 5 1 (.slice A' n' cap') n' ((bs ++ Vi.form x.toNat).map V8) ∧ Below base w w' := by
  obtain ⟨i0, hi, hz0, hz1, hz2⟩ := info_parts infoU8
  have Hi := Lib.hid hi; have Hn := Lib.hid hn; have Hown := Lib.hid hown
  clear hi hn hown
  obtain ⟨X, hX⟩ : ∃ X, X = x.toNat := ⟨_, rfl⟩
  have hX63 : X < 9223372036854775808 := by omega
  have h9 := Vi.len_nine hX63
  have h1 := Vi.len_pos X
  have hxx : (if x < 0 then 0 else x) = (X : Int) := by split <;> omega
  have hmx : max x 0 = (X : Int) := by omega
  rw [← hX]
  clear hX
  go_enter Try.func36, Try.ntmps36
  go_wp2_with fail
  refine (len_calls (X : Int) w (by omega)).mono ?_
  rintro e w' ⟨rfl, rfl⟩
  rw [Int.toNat_natCast]
  clear hxx hmx
  go_wp2_with fail
  go_loopw [0, 5] (fun b' i' wr => ∃ (r : Nat) (z : Int) (L : List (BitVec 8)), i' = .int .i64 z ∧ z = (r : Int) - 1 ∧ r ≤ Vi.len X ∧ L ++ Vi.down X r = bs ++ Vi.form X ∧ wr.ownsRow base 5 1 b' L.length (L.map V8) ∧ Below base w wr) (fun _ i _ => (intOf i + 1).toNat)
  case atStart => exact ⟨Vi.len X, _, bs, rfl, by omega, Nat.le_refl _, rfl, by rw [← Hn.out]; exact Hown.out, Below.refl _ _⟩
  case round =>
    obtain ⟨r, z, L, rfl, hz, hr, hL, hown, hbl⟩ := hrel
    have hLl : L.length + r = n + Vi.len X := by
      have := congrArg List.length hL
      rw [List.length_append, List.length_append, Vi.down_length, Vi.form_length] at this
      rw [Hn.out]; exact this
    obtain ⟨A1, cap1, rfl, hc1, hm1, _⟩ := own_form hown
    have HL := Lib.hid hL; have Hown1 := Lib.hid hown; have Hbl := Lib.hid hbl
    have hsz := hbl.size
    clear hL hown hbl
    cases r with
    | zero =>
      obtain rfl : z = -1 := by omega
      clear hz hLl
      go_wp2_with fail
      go_ret
      have hl : L = bs ++ Vi.form X := by have := HL.out; rwa [Vi.down, List.append_nil] at this
      rw [hl] at Hown1
      exact ⟨_, _, _, rfl, by rw [hl], by rw [hl]; exact Hown1.out, Hbl.out⟩
    | succ j =>
      obtain rfl : z = (j : Int) := by omega
      have hj8 : j ≤ 8 := by omega
      have hLb : L.length ≤ n + 8 := by omega
      clear hz hLl
      cases j with
      | zero =>
        have hlow := grp_low X
        have Hown2 := Lib.hid (own_below Hown1.out ((Below.refl wr.heap.size wr).alloc (Nat.le_refl _) (.cells #[.int .u8 (n8 (Vi.grp X 0) : Int)] 5)) (Nat.le_refl _))
        go_wp2_with (at_builtin; refine wpList_append_rd rfl _ _ 22 rfl base 5 i0 _ 1 descU8s Hi.out hz0 hz1 hz2 rfl _ L.length (L.map V8) rfl Hown2.out _ (some ⟨wr.heap.size, 0, none⟩) 1 1 [V8 (Vi.grp X 0)] rfl rfl (by intro h; cases h) (rd_fresh _ _ _ _ _ _ rfl rfl) (by intro u hu; simp at hu; subst hu; rfl) (by unfold maxLen; omega) (by omega) (by simp; omega) ?_)
        intro v4 w4 hown4 hg4
        have e4 : L.map V8 ++ [V8 (Vi.grp X 0)] = (L ++ [Vi.grp X 0]).map V8 := by simp
        rw [e4, show L.length + 1 = (L ++ [Vi.grp X 0]).length by simp] at hown4
        obtain ⟨A4, cap4, rfl, hc4, hm4, _⟩ := own_form hown4
        have Hown4 := Lib.hid hown4
        have HL2 := Lib.hid (show (L ++ [Vi.grp X 0]) ++ Vi.down X 0 = bs ++ Vi.form X by rw [← HL.out]; simp [Vi.down])
        have hb4 : Below base w w4 := (Hbl.out.alloc (Nat.le_trans hB hsz) _).grown hg4 (by simp; omega) fun k hk => (Hown2.out.lt k hk).1
        have Hb4 := Lib.hid hb4
        clear hown4 hg4 hb4 e4 Hown2 Hown1 HL
        go_wp2_with fail
        exact ⟨⟨0, _, _, rfl, by omega, by omega, HL2.out, Hown4.out, Hb4.out⟩, by simp [intOf]⟩
      | succ j =>
        have htop := grp_top X j
        have Hown2 := Lib.hid (own_below Hown1.out ((Below.refl wr.heap.size wr).alloc (Nat.le_refl _) (.cells #[.int .u8 (n8 (Vi.grp X (j + 1)) : Int)] 5)) (Nat.le_refl _))
        go_wp2_with (at_builtin; refine wpList_append_rd rfl _ _ 22 rfl base 5 i0 _ 1 descU8s Hi.out hz0 hz1 hz2 rfl _ L.length (L.map V8) rfl Hown2.out _ (some ⟨wr.heap.size, 0, none⟩) 1 1 [V8 (Vi.grp X (j + 1))] rfl rfl (by intro h; cases h) (rd_fresh _ _ _ _ _ _ rfl rfl) (by intro u hu; simp at hu; subst hu; rfl) (by unfold maxLen; omega) (by omega) (by simp; omega) ?_)
        intro v4 w4 hown4 hg4
        have e4 : L.map V8 ++ [V8 (Vi.grp X (j + 1))] = (L ++ [Vi.grp X (j + 1)]).map V8 := by simp
        rw [e4, show L.length + 1 = (L ++ [Vi.grp X (j + 1)]).length by simp] at hown4
        obtain ⟨A4, cap4, rfl, hc4, hm4, _⟩ := own_form hown4
        have Hown4 := Lib.hid hown4
        have HL2 := Lib.hid (show (L ++ [Vi.grp X (j + 1)]) ++ Vi.down X (j + 1) = bs ++ Vi.form X by rw [← HL.out]; simp [Vi.down])
        have hb4 : Below base w w4 := (Hbl.out.alloc (Nat.le_trans hB hsz) _).grown hg4 (by simp; omega) fun k hk => (Hown2.out.lt k hk).1
        have Hb4 := Lib.hid hb4
        clear hown4 hg4 hb4 e4 Hown2 Hown1 HL
        go_wp2_with fail
        exact ⟨⟨j + 1, _, _, rfl, by omega, by omega, HL2.out, Hown4.out, Hb4.out⟩, by simp [intOf]; omega⟩
set_option maxHeartbeats 1000000 in
theorem Put_calls (A : Option Addr) (n cap B : Nat) (bs : List (BitVec 8)) (x : Int) (w : World) (hx : x ≤ 9223372036854775807) (hn : n = bs.length) (hm : n ≤ 70368744177664) (hB : B ≤ w.heap.size) (hr : Rd w B A (bs.map V8)) :
    Calls Try.prog 16 #[.slice A n cap, .int .i64 x] w fun e w' => ∃ A' n' cap', e = .returned (.slice A' n' cap') ∧ n' = (bs ++ Vi.form x.toNat).length ∧ w'.ownsRow w.heap.size 5 1 (.slice A' n' cap') n' ((bs ++ Vi.form x.toNat).map V8) ∧ Below w.heap.size w w' := by
  have Hn := Lib.hid hn; have Hr := Lib.hid hr
  clear hn hr
  go_enter Try.func16, Try.ntmps16
  go_wp2_with fail
  refine (grown_calls A n cap 9 B bs w Hn.out (by omega) hB Hr.out).mono ?_
  rintro e w1 ⟨A1, cap1, rfl, hown1, hb1⟩
  have Hown1 := Lib.hid hown1; have Hb1 := Lib.hid hb1
  have hs1 := hb1.size
  clear hown1 hb1
  go_wp2_with fail
  refine (put_calls A1 n cap1 w.heap.size bs x w1 hx Hn.out (by omega) hs1 Hown1.out).mono ?_
  rintro e w2 ⟨A2, n2, cap2, rfl, hn2, hown2, hb2⟩
  have Hown2 := Lib.hid hown2; have Hb2 := Lib.hid (Hb1.out.trans hb2); have Hn2 := Lib.hid hn2
  clear hown2 hb2 hn2
  go_wp2_with fail
  go_ret
  exact ⟨_, _, _, rfl, Hn2.out, Hown2.out, Hb2.out⟩
set_option maxHeartbeats 1000000 in
theorem rPut_calls (A : Option Addr) (n cap B : Nat) (bs : List (BitVec 8)) (x : Int) (w : World) (hx : x ≤ 9223372036854775807) (hn : n = bs.length) (hm : n ≤ 70368744177664) (hnil : A = none → n = 0 ∧ cap = 0) (hB : B ≤ w.heap.size) (hr : Rd w B A (bs.map V8)) :
    Calls Try.prog 17 #[.slice A n cap, .int .i64 x] w fun e w' => ∃ A' n' cap', e = .returned (.slice A' n' cap') ∧ n' = (bs ++ Vi.form x.toNat).length ∧ w'.ownsRow w.heap.size 5 1 (.slice A' n' cap') n' ((bs ++ Vi.form x.toNat).map V8) ∧ Below w.heap.size w w' := by
  obtain ⟨i0, hi, hz0, hz1, hz2⟩ := info_parts infoU8
  have Hi := Lib.hid hi; have Hn := Lib.hid hn; have Hr := Lib.hid hr; have Hnil := Lib.hid hnil
  clear hi hn hr hnil
  obtain ⟨X, hX⟩ : ∃ X, X = x.toNat := ⟨_, rfl⟩
  have hX63 : X < 9223372036854775808 := by omega
  have h9 := Vi.len_nine hX63
  have h1 := Vi.len_pos X
  have hxx : (x < 0 ∧ X = 0) ∨ (¬ x < 0 ∧ x = (X : Int)) := by omega
  rw [← hX]
  have HX := Lib.hid hX
  clear hX
  go_enter Try.func17, Try.ntmps17
  go_upto_if 10 with fail
  go_cut [1] (fun x' w' => x' = .int .i64 (X : Int) ∧ w = w')
  case first =>
    rcases hxx with ⟨a, b⟩ | ⟨a, b⟩
    · go_wp2_with fail
      go_meet
      exact ⟨by rw [b]; rfl, rfl⟩
    · have Hb := Lib.hid b
      clear b
      go_wp2_with fail
      go_meet
      exact ⟨by rw [← Hb.out], rfl⟩
  case rest =>
    obtain ⟨rfl, rfl⟩ := hcut
    clear hxx HX
    go_wp2_with fail
    refine (rlen_calls (X : Int) w (by omega)).mono ?_
    rintro e w' ⟨rfl, rfl⟩
    rw [Int.toNat_natCast]
    go_wp2_with fail
    refine (bytes_calls A n cap B bs w Hn.out (by omega) Hnil.out hB Hr.out).mono ?_
    rintro e w1 ⟨A1, cap1, rfl, hown1, hb1⟩
    have Hown := Lib.hid hown1; have Hb1 := Lib.hid hb1
    have hs1 := hb1.size
    clear hown1 hb1
    go_wp2_with fail
    go_loopw [6, 7] (fun b' i' wr => ∃ (r : Nat) (z : Int) (L : List (BitVec 8)), i' = .int .i64 z ∧ z = (r : Int) - 1 ∧ r ≤ Vi.len X ∧ L ++ Vi.down X r = bs ++ Vi.form X ∧ wr.ownsRow w.heap.size 5 1 b' L.length (L.map V8) ∧ Below w.heap.size w wr) (fun _ i _ => (intOf i + 1).toNat)
    case atStart => exact ⟨Vi.len X, _, bs, rfl, by omega, Nat.le_refl _, rfl, by rw [← Hn.out]; exact Hown.out, Hb1.out⟩
    case round =>
      obtain ⟨r, z, L, rfl, hz, hr, hL, hown, hbl⟩ := hrel
      have hLl : L.length + r = n + Vi.len X := by
        have := congrArg List.length hL
        rw [List.length_append, List.length_append, Vi.down_length, Vi.form_length] at this
        rw [Hn.out]; exact this
      obtain ⟨A2, cap2, rfl, hc1, hm1, _⟩ := own_form hown
      have HL := Lib.hid hL; have Hown1 := Lib.hid hown; have Hbl := Lib.hid hbl
      have hsz := hbl.size
      clear hL hown hbl
      cases r with
      | zero =>
        obtain rfl : z = -1 := by omega
        clear hz hLl
        go_wp2_with fail
        go_ret
        have hl : L = bs ++ Vi.form X := by have := HL.out; rwa [Vi.down, List.append_nil] at this
        rw [hl] at Hown1
        exact ⟨_, _, _, rfl, by rw [hl], by rw [hl]; exact Hown1.out, Hbl.out⟩
      | succ j =>
        obtain rfl : z = (j : Int) := by omega
        have hj8 : j ≤ 8 := by omega
        have hLb : L.length ≤ n + 8 := by omega
        clear hz hLl
        cases j with
        | zero =>
          have hlow := rgrp_low X hX63
          have Hown2 := Lib.hid (own_below Hown1.out ((Below.refl wr.heap.size wr).alloc (Nat.le_refl _) (.cells #[.int .u8 (n8 (Vi.grp X 0) : Int)] 5)) (Nat.le_refl _))
          go_wp2_with (at_builtin; refine wpList_append_rd rfl _ _ 22 rfl w.heap.size 5 i0 _ 1 descU8s Hi.out hz0 hz1 hz2 rfl _ L.length (L.map V8) rfl Hown2.out _ (some ⟨wr.heap.size, 0, none⟩) 1 1 [V8 (Vi.grp X 0)] rfl rfl (by intro h; cases h) (rd_fresh _ _ _ _ _ _ rfl rfl) (by intro u hu; simp at hu; subst hu; rfl) (by unfold maxLen; omega) (by omega) (by simp; omega) ?_)
          intro v4 w4 hown4 hg4
          have e4 : L.map V8 ++ [V8 (Vi.grp X 0)] = (L ++ [Vi.grp X 0]).map V8 := by simp
          rw [e4, show L.length + 1 = (L ++ [Vi.grp X 0]).length by simp] at hown4
          obtain ⟨A4, cap4, rfl, hc4, hm4, _⟩ := own_form hown4
          have Hown4 := Lib.hid hown4
          have HL2 := Lib.hid (show (L ++ [Vi.grp X 0]) ++ Vi.down X 0 = bs ++ Vi.form X by rw [← HL.out]; simp [Vi.down])
          have hb4 : Below w.heap.size w w4 := (Hbl.out.alloc hsz _).grown hg4 (by simp; omega) fun k hk => (Hown2.out.lt k hk).1
          have Hb4 := Lib.hid hb4
          clear hown4 hg4 hb4 e4 Hown2 Hown1 HL
          go_wp2_with fail
          exact ⟨⟨0, _, _, rfl, by omega, by omega, HL2.out, Hown4.out, Hb4.out⟩, by simp [intOf]⟩
        | succ j =>
          have htop := rgrp_top X j hX63
          have hge : (0 : Int) ≤ (j : Int) + 1 := by omega
          have Hown2 := Lib.hid (own_below Hown1.out ((Below.refl wr.heap.size wr).alloc (Nat.le_refl _) (.cells #[.int .u8 (n8 (Vi.grp X (j + 1)) : Int)] 5)) (Nat.le_refl _))
          go_wp2_with (at_builtin; refine wpList_append_rd rfl _ _ 22 rfl w.heap.size 5 i0 _ 1 descU8s Hi.out hz0 hz1 hz2 rfl _ L.length (L.map V8) rfl Hown2.out _ (some ⟨wr.heap.size, 0, none⟩) 1 1 [V8 (Vi.grp X (j + 1))] rfl rfl (by intro h; cases h) (rd_fresh _ _ _ _ _ _ rfl rfl) (by intro u hu; simp at hu; subst hu; rfl) (by unfold maxLen; omega) (by omega) (by simp; omega) ?_)
          intro v4 w4 hown4 hg4
          have e4 : L.map V8 ++ [V8 (Vi.grp X (j + 1))] = (L ++ [Vi.grp X (j + 1)]).map V8 := by simp
          rw [e4, show L.length + 1 = (L ++ [Vi.grp X (j + 1)]).length by simp] at hown4
          obtain ⟨A4, cap4, rfl, hc4, hm4, _⟩ := own_form hown4
          have Hown4 := Lib.hid hown4
          have HL2 := Lib.hid (show (L ++ [Vi.grp X (j + 1)]) ++ Vi.down X (j + 1) = bs ++ Vi.form X by rw [← HL.out]; simp [Vi.down])
          have hb4 : Below w.heap.size w w4 := (Hbl.out.alloc hsz _).grown hg4 (by simp; omega) fun k hk => (Hown2.out.lt k hk).1
          have Hb4 := Lib.hid hb4
          clear hown4 hg4 hb4 e4 Hown2 Hown1 HL
          go_wp2_with fail
          exact ⟨⟨j + 1, _, _, rfl, by omega, by omega, HL2.out, Hown4.out, Hb4.out⟩, by simp [intOf]; omega⟩
end Go.Proofs.Ytkohakogknodeaa
