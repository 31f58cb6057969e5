/- SpiralSpots: the walk -/
import Derived.Test.YtjbidjidfkkikaaSpN
namespace Go.Proofs.Ytjbidjidfkkikaa
open Go.RowKit
set_option linter.unusedSimpArgs false
set_option linter.unusedVariables false
set_option maxHeartbeats 1000000 in
theorem law_spots (i : Int) (w : World) (hw : (Lit.int .i64 i).wf = true) :
    Calls Try.prog 3 #[.int .i64 i] w fun e w' => e = .returned (.bool true) ∧ Below w.heap.size w w' := by
  clear hw
  go_enter Try.func3, Try.ntmps3
  go_wp2_with fail
  refine (first_calls w).mono ?_
  rintro e w1 ⟨rfl, hb1⟩
  have hs1 := hb1.size
  have Hb1 := Lib.hid hb1
  clear hb1
  by_cases hi : i < 0 ∨ 16777216 ≤ i
  · have HO := Lib.hid (At_out i hi)
    have HS := Lib.hid (Spot_out i hi)
    clear hi
    go_wp2_with fail
    refine (HS.out w1).mono ?_
    rintro e w2 ⟨rfl, rfl⟩
    go_wp2_with fail
    refine (HO.out w1).mono ?_
    rintro e w2 ⟨rfl, hb2⟩
    have Hb2 := Lib.hid (Hb1.out.trans (hb2.mono hs1))
    have hs2 := hb2.size
    clear hb2
    go_wp2_with fail
    have Ha := Lib.hid ((Hb2.out.trans ((lit_below w2 #[.int .i64 0, .int .i64 0] 27).mono (by omega))))
    generalize w2.alloc (.cells #[.int .i64 0, .int .i64 0] 27) = wz at *
    have hz := Ha.out.size
    refine (plain_calls (0, 0) (by decide) (by decide) wz).mono ?_
    rintro e w3 ⟨rfl, hb3⟩
    have Hb3 := Lib.hid (Ha.out.trans (hb3.mono (by omega)))
    clear hb3
    go_wp2_with fail
    go_ret
    exact ⟨rfl, Hb3.out⟩
  · obtain ⟨I, rfl⟩ : ∃ I : Nat, i = (I : Int) := ⟨i.toNat, by omega⟩
    have hI : I < 16777216 := by omega
    obtain ⟨s1, s2⟩ := Sp.spot_small I hI
    have HO := Lib.hid (At_calls I hI)
    have HS := Lib.hid (Spot_calls I hI)
    have HP := Lib.hid (plain_calls (Sp.spot I) s1 s2)
    clear hi hI s1 s2
    go_wp2_with fail
    refine (HS.out w1).mono ?_
    rintro e w2 ⟨rfl, k2, rfl⟩
    have Hb2 := Lib.hid (below_drewN Hb1.out k2)
    generalize w1.drewN k2 = w2 at *
    have hs2 := Hb2.out.size
    go_wp2_with fail
    refine (HO.out w2).mono ?_
    rintro e w3 ⟨rfl, hb3⟩
    have Hb3 := Lib.hid (Hb2.out.trans (hb3.mono (by omega)))
    have hs3 := hb3.size
    clear hb3
    go_wp2_with fail
    have Ha := Lib.hid ((Hb3.out.trans ((lit_below w3 #[.int .i64 (Sp.spot I).1, .int .i64 (Sp.spot I).2] 27).mono (by omega))))
    generalize w3.alloc (.cells #[.int .i64 (Sp.spot I).1, .int .i64 (Sp.spot I).2] 27) = wz at *
    have hz := Ha.out.size
    refine (HP.out wz).mono ?_
    rintro e w4 ⟨rfl, hb4⟩
    have Hb4 := Lib.hid (Ha.out.trans (hb4.mono (by omega)))
    clear hb4
    go_wp2_with fail
    go_ret
    exact ⟨rfl, Hb4.out⟩
end Go.Proofs.Ytjbidjidfkkikaa
