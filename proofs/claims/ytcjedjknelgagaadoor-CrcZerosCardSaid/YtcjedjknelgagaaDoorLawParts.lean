/- pithlaw2.CrcParts, CrcGroups: the walks -/
import Derived.Test.YtcjedjknelgagaaDoorLawSums
namespace Go.Proofs.YtcjedjknelgagaaDoor
open Go.RowKit Go.ChangeShapes Go.WideShapes Go.ChangeAt
set_option linter.unusedSimpArgs false
set_option linter.unusedVariables false

theorem n32_beq_self (x : BitVec 32) : ((n32 x : Int) == (n32 x : Int)) = true := by simp
set_option maxHeartbeats 1000000 in
theorem law_groups (a b c : BitVec 32) (n m : Int) (w : World) (hn : -9223372036854775808 ≤ n ∧ n ≤ 9223372036854775807) (hm : -9223372036854775808 ≤ m ∧ m ≤ 9223372036854775807) (ht : TabIn w) :
    Calls Tryd.prog 7 #[.int .u32 (n32 a), .int .u32 (n32 b), .int .u32 (n32 c), .int .i64 n, .int .i64 m] w fun e w' => e = .returned (.bool true) ∧ Below w.heap.size w w' := by
  have H1 := Lib.hid (first_calls w ht)
  clear ht
  have Hn := Lib.hid hn; have Hm := Lib.hid hm; clear hn hm
  by_cases hbad : n < 0 ∨ m < 0 ∨ n > 576460752303423488 ∨ m > 576460752303423488
  · have hd : (decide (n < 0) = true) ∨ (decide (n < 0) = false ∧ decide (m < 0) = true) ∨ (decide (n < 0) = false ∧ decide (m < 0) = false ∧ decide (576460752303423488 < n) = true) ∨
        (decide (n < 0) = false ∧ decide (m < 0) = false ∧ decide (576460752303423488 < n) = false ∧ decide (576460752303423488 < m) = true) := by
      simp only [decide_eq_true_eq, decide_eq_false_iff_not]; omega
    clear hbad
    rcases hd with h1 | ⟨h1, h2⟩ | ⟨h1, h2, h3⟩ | ⟨h1, h2, h3, h4⟩
    all_goals
      go_enter Tryd.func7, Tryd.ntmps7
      go_wp2_with fail
      refine H1.out.mono ?_
      rintro e w1 ⟨rfl, hb1⟩
      have Hb1 := Lib.hid hb1; clear hb1
      go_wp2_with fail
      go_ret
      exact ⟨rfl, Hb1.out⟩
  · have h1 : decide (n < 0) = false := by rw [decide_eq_false_iff_not]; omega
    have h2 : decide (m < 0) = false := by rw [decide_eq_false_iff_not]; omega
    have h3 : decide (576460752303423488 < n) = false := by rw [decide_eq_false_iff_not]; omega
    have h4 : decide (576460752303423488 < m) = false := by rw [decide_eq_false_iff_not]; omega
    have Hg := Lib.hid (Crc.join_groups a b c n m (by omega) (by omega))
    have Hnm := Lib.hid (show -9223372036854775808 ≤ n + m ∧ n + m ≤ 9223372036854775807 by omega)
    have hw : IntKind.i64.wrap (n + m) = n + m := IntWalk.i64_in _ Hnm.out
    clear hbad
    go_enter Tryd.func7, Tryd.ntmps7
    go_wp2_with fail
    refine H1.out.mono ?_
    rintro e w1 ⟨rfl, hb1⟩
    have Hb1 := Lib.hid hb1; clear hb1
    go_wp2_with fail
    refine (joi_calls a b _ _ n rfl rfl _ Hn.out).mono ?_
    rintro e w2 ⟨rfl, hb2⟩
    have Hb2 := Lib.hid (Hb1.out.trans (hb2.mono Hb1.out.size)); clear hb2
    go_wp2_with fail
    refine (joi_calls _ c _ _ m rfl rfl _ Hm.out).mono ?_
    rintro e w3 ⟨rfl, hb3⟩
    have Hb3 := Lib.hid (Hb2.out.trans (hb3.mono Hb2.out.size)); clear hb3
    go_wp2_with fail
    refine (joi_calls b c _ _ m rfl rfl _ Hm.out).mono ?_
    rintro e w4 ⟨rfl, hb4⟩
    have Hb4 := Lib.hid (Hb3.out.trans (hb4.mono Hb3.out.size)); clear hb4
    go_wp2_with fail
    refine (joi_calls a _ _ _ (n + m) rfl rfl _ Hnm.out).mono ?_
    rintro e w5 ⟨rfl, hb5⟩
    have Hb5 := Lib.hid (Hb4.out.trans (hb5.mono Hb4.out.size)); clear hb5
    rw [Hg.out]
    go_wp2_with fail
    go_ret
    exact ⟨rfl, Hb5.out⟩
theorem walk_groups (a b c n m : Int) (w : World) (h0 : (Lit.int .u32 a).wf = true) (h1 : (Lit.int .u32 b).wf = true) (h2 : (Lit.int .u32 c).wf = true) (h3 : (Lit.int .i64 n).wf = true) (h4 : (Lit.int .i64 m).wf = true) (ht : TabIn w) :
    Calls Tryd.prog 7 #[.int .u32 a, .int .u32 b, .int .u32 c, .int .i64 n, .int .i64 m] w fun e w' => e = .returned (.bool true) ∧ Below w.heap.size w w' := by
  rw [int32 h0, int32 h1, int32 h2]
  exact law_groups _ _ _ n m w (bounds_i64 h3) (bounds_i64 h4) ht
end Go.Proofs.YtcjedjknelgagaaDoor
