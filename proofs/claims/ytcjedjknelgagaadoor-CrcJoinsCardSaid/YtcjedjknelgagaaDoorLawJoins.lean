/- pithlaw2.CrcJoins: the walk -/
import Derived.Test.YtcjedjknelgagaaDoorLift
namespace Go.Proofs.YtcjedjknelgagaaDoor
open Go.RowKit Go.ChangeShapes Go.WideShapes Go.ChangeAt
set_option linter.unusedSimpArgs false
set_option linter.unusedVariables false

set_option maxHeartbeats 400000 in
theorem law_joins (a b : BitVec 32) (n : Int) (w : World) (hn : -9223372036854775808 ≤ n ∧ n ≤ 9223372036854775807) (ht : TabIn w) :
    Calls Tryd.prog 5 #[.int .u32 (n32 a), .int .u32 (n32 b), .int .i64 n] w fun e w' => e = .returned (.bool true) ∧ Below w.heap.size w w' := by
  have H1 := Lib.hid (first_calls w ht); clear ht
  have Hn := Lib.hid hn; clear hn
  go_enter Tryd.func5, Tryd.ntmps5
  go_wp2_with fail
  refine H1.out.mono ?_
  rintro e w1 ⟨rfl, hb1⟩
  have Hb1 := Lib.hid hb1; clear hb1
  go_wp2_with fail
  refine (joi_calls a b _ _ n rfl rfl _ Hn.out).mono ?_
  rintro e w2 ⟨rfl, hb2⟩
  have Hb2 := Lib.hid (Hb1.out.trans (hb2.mono Hb1.out.size)); clear hb2
  go_wp2_with fail
  refine (rjoin_calls a b n _ Hn.out).mono ?_
  rintro e w' ⟨rfl, rfl⟩
  go_wp2
  go_ret
  exact ⟨rfl, Hb2.out⟩

theorem walk_joins (a b n : Int) (w : World) (h0 : (Lit.int .u32 a).wf = true) (h1 : (Lit.int .u32 b).wf = true) (h2 : (Lit.int .i64 n).wf = true) (ht : TabIn w) :
    Calls Tryd.prog 5 #[.int .u32 a, .int .u32 b, .int .i64 n] w fun e w' => e = .returned (.bool true) ∧ Below w.heap.size w w' := by
  rw [int32 h0, int32 h1]
  exact law_joins _ _ n w (bounds_i64 h2) ht
end Go.Proofs.YtcjedjknelgagaaDoor
