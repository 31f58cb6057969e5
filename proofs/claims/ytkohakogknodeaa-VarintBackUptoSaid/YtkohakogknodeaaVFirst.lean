/- num, room, first -/
import Derived.Test.YtkohakogknodeaaVRead2
namespace Go.Proofs.Ytkohakogknodeaa
open Go.RowKit
set_option linter.unusedSimpArgs false
set_option linter.unusedVariables false
theorem num_calls (x : Int) (w : World) (h0 : 0 ≤ x) (h1 : x ≤ 100) :
    Calls Try.prog 30 #[.int .i64 x] w fun e w' => e = .returned (.int .i64 x) ∧ w = w' := by
  have h : IntKind.i64.wrap x = x := IntWalk.i64_in _ (by omega)
  go_enter Try.func30, Try.ntmps30
  go_wp2
  go_ret
  exact ⟨rfl, rfl⟩
def b1 : List (BitVec 8) := [7#8, 130#8, 44#8]
def b7 : List (BitVec 8) := [7#8, 130#8, 44#8, 3#8, 0#8, 1#8, 3#8]
theorem f_put : [7#8] ++ Vi.form (300 : Int).toNat = b1 := by decide +kernel
theorem f_putB : Vi.putB b1 3 [3, 5, 9] = b7 := by decide +kernel
theorem f_putE : Vi.putE 3 [3, 5, 9] = 0 := by decide +kernel
theorem f_len : (Vi.len (300 : Int).toNat : Int) = 2 := by decide +kernel
theorem f_1 : Vi.iX b7 0 0 = 7 ∧ Vi.iAt b7 0 0 = 1 ∧ Vi.iE b7 0 0 = 0 := by decide +kernel
theorem f_2 : Vi.iX b7 1 0 = 300 ∧ Vi.iAt b7 1 0 = 3 ∧ Vi.iE b7 1 0 = 0 := by decide +kernel
theorem f_3 : Vi.jL b7 3 0 3 10 = [3, 5, 9] ∧ Vi.jAt b7 3 0 3 10 = 7 ∧ Vi.jE b7 3 0 3 10 = 0 := by decide +kernel
theorem f_4 : lft b7 7 0 = 0 := by decide +kernel
theorem f_5 : Vi.iX b7 7 0 = 0 := by decide +kernel
set_option maxHeartbeats 4000000 in
theorem first_calls (w : World) : Calls Try.prog 13 #[] w fun e w' => e = .returned (.bool true) ∧ Below w.heap.size w w' := by
  go_enter Try.func13, Try.ntmps13
  go_wp2_with fail
  refine (Put_calls (some ⟨w.heap.size, 0, none⟩) 1 1 (w.heap.size + 1) [7#8] 300 _ (by decide) rfl (by decide) (by simp) (rd_fresh _ _ _ _ _ _ rfl rfl)).mono ?_
  rintro e w1 ⟨A1, n1, cap1, rfl, hn1, hown1, hb1⟩
  rw [f_put] at hn1 hown1
  obtain rfl : n1 = 3 := hn1
  have hb1' : Below w.heap.size w w1 := ((Below.refl _ _).alloc (Nat.le_refl _) _).trans (hb1.mono (by simp))
  have hs1 := hb1'.size
  have Hb1 := Lib.hid hb1'; have Hown1 := Lib.hid hown1
  clear hb1 hown1 hb1'
  go_wp2_with fail
  have ha1 : Below w1.heap.size w1 (w1.alloc (.cells #[.int .i64 3, .int .i64 5, .int .i64 9] 3)) := (Below.refl _ _).alloc (Nat.le_refl _) _
  refine (putList_calls A1 3 cap1 w1.heap.size b1 3 (some ⟨w1.heap.size, 0, none⟩) 3 3 (w1.heap.size + 1) [3, 5, 9] _ rfl (by decide) rfl (by decide) (by decide) (by decide) (by simp) (by simp) ((own_rd Hown1.out).below ha1 (Nat.le_refl _)) (rd_fresh _ _ _ _ _ _ rfl rfl) (by intro z hz; simp at hz; omega) (by decide)).mono ?_
  rintro e w2 ⟨A2, n2, cap2, rfl, hn2, hown2, hb2⟩
  rw [f_putB] at hn2 hown2
  rw [f_putE]
  obtain rfl : n2 = 7 := hn2
  have hb2' : Below w.heap.size w w2 := Hb1.out.trans ((ha1.mono hs1).trans (hb2.mono (by simp; omega)))
  have hs2 := hb2'.size
  have Hb2 := Lib.hid hb2'; have Hown2 := Lib.hid hown2
  clear hb2 hown2 hb2' ha1 Hown1
  go_wp2_with fail
  have ha2 : Below w2.heap.size w2 (w2.alloc (.cells #[.int .u8 7, .int .u8 130, .int .u8 44, .int .u8 3, .int .u8 0, .int .u8 1, .int .u8 3] 5)) := (Below.refl _ _).alloc (Nat.le_refl _) _
  refine (same_calls A2 (some ⟨w2.heap.size, 0, none⟩) 7 cap2 7 7 w2.heap.size (w2.heap.size + 1) b7 b7 _ rfl rfl (fun h => (own_nil Hown2.out h).1) (by intro h; cases h) ((own_rd Hown2.out).below ha2 (Nat.le_refl _)) (rd_fresh _ _ _ _ _ _ rfl rfl)).mono ?_
  rintro e w' ⟨rfl, rfl⟩
  rw [decide_eq_true rfl]
  have Hb3 := Lib.hid (Hb2.out.trans (ha2.mono hs2))
  have Hown3 := Lib.hid (own_below Hown2.out ha2 (Nat.le_refl _))
  clear ha2
  generalize w2.alloc (.cells #[.int .u8 7, .int .u8 130, .int .u8 44, .int .u8 3, .int .u8 0, .int .u8 1, .int .u8 3] 5) = w3 at *
  have hs3 := Hb3.out.size
  go_wp2_with (first
    | (go_at_call 30; refine (num_calls 0 _ (by omega) (by omega)).mono ?_; rintro e w' ⟨rfl, rfl⟩)
    | (go_at_call 18; refine (len_calls 300 _ (by omega)).mono ?_; rintro e w' ⟨rfl, rfl⟩; rw [f_len]))
  refine (newReader_calls A2 7 cap2 w3.heap.size b7 w3 rfl (by decide) (Nat.le_refl _) (own_rd Hown3.out)).mono ?_
  rintro e w4 ⟨g, A4, cap4, rfl, hr4, hb4⟩
  have Hb4 := Lib.hid (Hb3.out.trans (hb4.mono hs3)); have Hr4 := Lib.hid hr4
  have hg := hr4.2.2.2.2
  clear hb4 hr4 Hown3
  go_wp2_with fail
  refine (int_calls g A4 7 cap4 0 _ b7 0 w4 Hr4.out (by decide)).mono ?_
  rintro e w5 ⟨rfl, hu5, hr5⟩
  rw [f_1.1]
  rw [f_1.2.1, f_1.2.2] at hr5
  have Hb5 := Lib.hid (Hb4.out.trans (hu5.below (by omega) Hb4.out.size)); have Hr5 := Lib.hid hr5
  clear hu5 hr5
  go_wp2_with fail
  refine (int_calls g A4 7 cap4 1 _ b7 0 w5 Hr5.out (by decide)).mono ?_
  rintro e w6 ⟨rfl, hu6, hr6⟩
  rw [f_2.1]
  rw [f_2.2.1, f_2.2.2] at hr6
  have Hb6 := Lib.hid (Hb5.out.trans (hu6.below (by omega) Hb5.out.size)); have Hr6 := Lib.hid hr6
  clear hu6 hr6
  go_wp2_with fail
  refine (List_calls g A4 7 cap4 3 _ b7 0 3 10 w6 Hr6.out (by decide) (by decide) (by decide) (by decide)).mono ?_
  rintro e w7 ⟨hu7, A7, n7, cap7, rfl, hn7, hown7, hr7⟩
  rw [f_3.1] at hn7 hown7
  rw [f_3.2.1, f_3.2.2] at hr7
  obtain rfl : n7 = 3 := hn7
  have Hb7 := Lib.hid (Hb6.out.trans (hu7.below (by omega) Hb6.out.size)); have Hr7 := Lib.hid hr7; have Hown7 := Lib.hid hown7
  clear hu7 hr7 hown7
  go_wp2_with fail
  refine (err_calls g A4 7 cap4 7 _ b7 0 w7 Hr7.out).mono ?_
  rintro e w8 ⟨rfl, k8, rfl⟩
  have Hb8 := Lib.hid (below_drewN Hb7.out k8)
  have Hr8 := Lib.hid (RdrIs.below Hr7.out (below_drewN (Below.refl _ _) k8))
  have Hown8 := Lib.hid (own_below Hown7.out (below_drewN (Below.refl _ _) k8) (Nat.le_refl _))
  clear Hb7 Hr7 Hown7
  generalize w7.drewN k8 = w8 at *
  have hs8 := Hb8.out.size
  go_wp2_with fail
  have ha8 : Below w8.heap.size w8 (w8.alloc (.cells #[.int .i64 3, .int .i64 5, .int .i64 9] 3)) := (Below.refl _ _).alloc (Nat.le_refl _) _
  obtain ⟨p1, p2⟩ := own_cap Hown8.out
  refine (sameI_calls A7 (some ⟨w8.heap.size, 0, none⟩) 3 cap7 3 3 w8.heap.size (w8.heap.size + 1) [3, 5, 9] [3, 5, 9] _ rfl rfl p1 (by decide) p2 (by decide) ((own_rd Hown8.out).below ha8 (Nat.le_refl _)) (rd_fresh _ _ _ _ _ _ rfl rfl)).mono ?_
  rintro e w9 ⟨rfl, k9, rfl⟩
  rw [decide_eq_true rfl]
  have Hb9 := Lib.hid (below_drewN (Hb8.out.trans (ha8.mono hs8)) k9)
  have Hr9 := Lib.hid (RdrIs.below (RdrIs.below Hr8.out ha8) (below_drewN (Below.refl _ _) k9))
  clear ha8 Hown8
  generalize (w8.alloc (.cells #[.int .i64 3, .int .i64 5, .int .i64 9] 3)).drewN k9 = w9 at *
  go_wp2_with (go_at_call 30; refine (num_calls 0 _ (by omega) (by omega)).mono ?_; rintro e w' ⟨rfl, rfl⟩)
  refine (left_calls g A4 7 cap4 7 _ b7 0 w9 Hr9.out (by decide)).mono ?_
  rintro e w10 ⟨rfl, k10, rfl⟩
  rw [f_4]
  have Hb10 := Lib.hid (below_drewN Hb9.out k10)
  have Hr10 := Lib.hid (RdrIs.below Hr9.out (below_drewN (Below.refl _ _) k10))
  clear Hb9 Hr9
  generalize w9.drewN k10 = w10 at *
  go_wp2_with fail
  refine (int_calls g A4 7 cap4 7 _ b7 0 w10 Hr10.out (by decide)).mono ?_
  rintro e w11 ⟨rfl, hu11, hr11⟩
  rw [f_5]
  have Hb11 := Lib.hid (Hb10.out.trans (hu11.below (by omega) Hb10.out.size))
  clear hu11 hr11
  go_wp2_with fail
  go_ret
  exact ⟨rfl, Hb11.out⟩
end Go.Proofs.Ytkohakogknodeaa
