/- SpiralRings: the walk -/
import Derived.Test.YtjbidjidfkkikaaSpX
namespace Go.Proofs.Ytjbidjidfkkikaa
open Go.RowKit
set_option linter.unusedSimpArgs false
set_option linter.unusedVariables false
set_option maxHeartbeats 4000000 in
set_option maxRecDepth 20000 in
theorem law_rings (x y : Nat) (w : World) (hx : (Lit.float .f64 x).wf = true) (hy : (Lit.float .f64 y).wf = true) :
    Calls Try.prog 5 #[.float .f64 x, .float .f64 y] w fun e w' => e = .returned (.bool true) ∧ Below w.heap.size w w' := by
  have hx : x < 18446744073709551616 := by simpa [Lit.wf] using hx
  have hy : y < 18446744073709551616 := by simpa [Lit.wf] using hy
  by_cases hno : ¬ Yes x ∨ (Yes x ∧ ¬ Yes y)
  · have HR := Lib.hid (Ring_no x y hx hy hno)
    have HW := Lib.hid (lwhole_no x y hx hy hno)
    clear hno hx hy
    go_enter Try.func5, Try.ntmps5
    go_wp2_with fail
    refine (first_calls w).mono ?_
    rintro e w1 ⟨rfl, hb1⟩
    have hs1 := hb1.size
    have Hb1 := Lib.hid hb1
    clear hb1
    go_wp2_with fail
    refine (HR.out w1).mono ?_
    rintro e w2 ⟨rfl, k2, rfl⟩
    have Hb2 := Lib.hid (below_drewN Hb1.out k2)
    generalize w1.drewN k2 = w2 at *
    go_wp2_with fail
    refine (HW.out w2).mono ?_
    rintro e w3 ⟨⟨⟨p1, p2⟩, rfl⟩, hb3⟩
    have Hb3 := Lib.hid (Hb2.out.trans (hb3.mono Hb2.out.size))
    clear hb3
    go_wp2_with fail
    have Hb4 := Lib.hid (Hb3.out.trans ((lit_below w3 #[.int .i64 p1, .int .i64 p2] 27).mono Hb3.out.size))
    go_ret
    exact ⟨rfl, Hb4.out⟩
  · have hyes : Yes x ∧ Yes y := by
      by_cases h1 : Yes x
      · by_cases h2 : Yes y
        · exact ⟨h1, h2⟩
        · exact absurd (Or.inr ⟨h1, h2⟩) hno
      · exact absurd (Or.inl h1) hno
    obtain ⟨⟨u, hu1, hu2⟩, ⟨v, hv1, hv2⟩⟩ := hyes
    have HR := Lib.hid (Ring_yes x y u v hu1 hv1 hu2 hv2 hx hy)
    have HW := Lib.hid (lwhole_in x y u v true true (inR_yes hu1 hu2) (inR_yes hv1 hv2))
    obtain ⟨M, hM, hM2⟩ : ∃ M : Int, max (u.natAbs : Int) (v.natAbs : Int) = M ∧ ((M = (u.natAbs : Int) ∧ (v.natAbs : Int) ≤ (u.natAbs : Int)) ∨ (M = (v.natAbs : Int) ∧ (u.natAbs : Int) < (v.natAbs : Int))) := ⟨_, rfl, by omega⟩
    rw [hM] at HR
    have HA := Lib.hid (fun w => labs_calls u (by omega) (by omega) w)
    have HB := Lib.hid (fun w => labs_calls v (by omega) (by omega) w)
    clear hM hno hx hy hu1 hv1 hu2 hv2
    have HM := Lib.hid hM2
    clear hM2
    go_enter Try.func5, Try.ntmps5
    go_wp2_with fail
    refine (first_calls w).mono ?_
    rintro e w1 ⟨rfl, hb1⟩
    have hs1 := hb1.size
    have Hb1 := Lib.hid hb1
    clear hb1
    go_wp2_with fail
    refine (HR.out w1).mono ?_
    rintro e w2 ⟨rfl, rfl⟩
    go_wp2_with fail
    refine (HW.out w1).mono ?_
    rintro e w3 ⟨rfl, hb3⟩
    have Hb3 := Lib.hid (Hb1.out.trans (hb3.mono hs1))
    clear hb3
    go_wp2_with fail
    have hs4 : SpIs (w3.alloc (Obj.cells #[Value.int .i64 u, Value.int .i64 v] 27)) w3.heap.size (u, v) := heap_alloc_new _ _
    have Hb4 := Lib.hid (Hb3.out.trans ((lit_below w3 #[.int .i64 u, .int .i64 v] 27).mono Hb3.out.size))
    generalize w3.alloc (Obj.cells #[Value.int .i64 u, Value.int .i64 v] 27) = w4 at *
    have c0 := hs4.c0; have c1 := hs4.c1
    dsimp only at c0 c1
    clear hs4
    have HA' := Lib.hid (fun n => show Calls Try.prog 21 #[.int .i64 u] (w4.drewN n) fun e w' => e = .returned (.int .i64 (u.natAbs : Int)) ∧ w' = w4.drewN n from (HA.out (w4.drewN n)).mono fun _ _ h => ⟨h.1, h.2.symm⟩)
    have HB' := Lib.hid (fun n => show Calls Try.prog 21 #[.int .i64 v] (w4.drewN n) fun e w' => e = .returned (.int .i64 (v.natAbs : Int)) ∧ w' = w4.drewN n from (HB.out (w4.drewN n)).mono fun _ _ h => ⟨h.1, h.2.symm⟩)
    rcases HM.out with ⟨rfl, h⟩ | ⟨rfl, h⟩
    all_goals
      generalize (u.natAbs : Int) = a at *
      generalize (v.natAbs : Int) = b at *
      go_big_quiet (first
        | (go_at_call 21; refine Calls.quiet_of_same (HA'.out _))
        | (go_at_call 21; refine Calls.quiet_of_same (HB'.out _)))
      go_wp2_with fail
      go_ret
      exact ⟨rfl, below_drewN Hb4.out _⟩
end Go.Proofs.Ytjbidjidfkkikaa
