/- SpiralIndex: the walk -/
import Derived.Test.YtjbidjidfkkikaaSpY
namespace Go.Proofs.Ytjbidjidfkkikaa
open Go.RowKit
set_option linter.unusedSimpArgs false
set_option linter.unusedVariables false
set_option maxHeartbeats 1000000 in
theorem rIndex_far (u v : Int) (hu : u.natAbs ≤ 4503599627370496) (hv : v.natAbs ≤ 4503599627370496) (h : 5000 < u.natAbs ∨ (u.natAbs ≤ 5000 ∧ 5000 < v.natAbs)) (w : World) : Calls Try.prog 19 #[VS (u, v)] w fun e w' => e = .returned (.tuple #[.int .i64 0, .bool false]) ∧ Below w.heap.size w w' := by
  have HA := Lib.hid (fun w => rabs_calls u (by omega) (by omega) w)
  have HB := Lib.hid (fun w => rabs_calls v (by omega) (by omega) w)
  have h' : (5000 : Int) < (u.natAbs : Int) ∨ (¬ (5000 : Int) < (u.natAbs : Int) ∧ (5000 : Int) < (v.natAbs : Int)) := by omega
  have Hb := Lib.hid (lit_below w #[.int .i64 u, .int .i64 v] 27)
  clear h hu hv
  generalize (u.natAbs : Int) = ua at *
  generalize (v.natAbs : Int) = va at *
  rcases h' with h1 | ⟨h1, h2⟩
  all_goals
    go_enter Try.func19, Try.ntmps19
    go_wp2_with (first
      | (go_at_call 38; refine (HA.out _).mono ?_; rintro e w' ⟨rfl, rfl⟩)
      | (go_at_call 38; refine (HB.out _).mono ?_; rintro e w' ⟨rfl, rfl⟩))
    go_ret2
    exact ⟨rfl, Hb.out⟩
theorem Sp.far_idx {I : Nat} {u v : Int} (h : Sp.spot I = (u, v)) (hf : 5000 < u.natAbs ∨ 5000 < v.natAbs) : 16777216 ≤ I := by
  rcases Nat.lt_or_ge I 16777216 with hI | hI
  · obtain ⟨r, h1, h2, _⟩ := Sp.spot_le I hI
    rw [h] at h1
    simp only at h1
    omega
  · exact hI
theorem Index_at {x y : Nat} {u v : Int} {I : Nat} (hx : x < 18446744073709551616) (hy : y < 18446744073709551616) (nx : Fl.IsN x u) (ny : Fl.IsN y v) (hu : u.natAbs ≤ 4503599627370496) (hv : v.natAbs ≤ 4503599627370496) (hI : Sp.spot I = (u, v)) (w : World) :
    Calls Try.prog 17 #[.complex .f64 x y] w fun e w' => e = .returned (.tuple #[.int .i64 (if I < 16777216 then (I : Int) else 0), .bool (decide (I < 16777216))]) ∧ w = w' := by
  by_cases h0 : I = 0
  · subst h0
    have e : ((0, 0) : Int × Int) = (u, v) := hI
    injection e with e1 e2
    subst e1 e2
    exact Index_zero x y nx ny hx hy w
  · have := Sp.spot_idx h0
    rw [hI] at this
    exact Index_yes x y I u v nx ny hu hv hx hy this w
set_option maxHeartbeats 4000000 in
set_option maxRecDepth 20000 in
theorem law_index (x y : Nat) (w : World) (hx : (Lit.float .f64 x).wf = true) (hy : (Lit.float .f64 y).wf = true) :
    Calls Try.prog 4 #[.float .f64 x, .float .f64 y] w fun e w' => e = .returned (.bool true) ∧ Below w.heap.size w w' := by
  have hx : x < 18446744073709551616 := by simpa [Lit.wf] using hx
  have hy : y < 18446744073709551616 := by simpa [Lit.wf] using hy
  by_cases hno : ¬ Yes x ∨ (Yes x ∧ ¬ Yes y)
  · have HR := Lib.hid (Index_no x y hx hy hno)
    have HW := Lib.hid (lwhole_no x y hx hy hno)
    clear hno hx hy
    go_enter Try.func4, Try.ntmps4
    go_wp2_with fail
    refine (first_calls w).mono ?_
    rintro e w1 ⟨rfl, hb1⟩
    have hs1 := hb1.size
    have Hb1 := Lib.hid hb1
    clear hb1
    go_wp2_with fail
    refine (HR.out w1).mono ?_
    rintro e w2 ⟨rfl, k2, rfl⟩
    have Hb2 := Lib.hid (below_drewN Hb1.out k2)
    generalize w1.drewN k2 = w2 at *
    go_wp2_with fail
    refine (HW.out w2).mono ?_
    rintro e w3 ⟨⟨⟨p1, p2⟩, rfl⟩, hb3⟩
    have Hb3 := Lib.hid (Hb2.out.trans (hb3.mono Hb2.out.size))
    clear hb3
    go_wp2_with fail
    have Hb4 := Lib.hid (Hb3.out.trans ((lit_below w3 #[.int .i64 p1, .int .i64 p2] 27).mono Hb3.out.size))
    go_ret
    exact ⟨rfl, Hb4.out⟩
  · have hyes : Yes x ∧ Yes y := by
      by_cases h1 : Yes x
      · by_cases h2 : Yes y
        · exact ⟨h1, h2⟩
        · exact absurd (Or.inr ⟨h1, h2⟩) hno
      · exact absurd (Or.inl h1) hno
    obtain ⟨⟨u, hu1, hu2⟩, ⟨v, hv1, hv2⟩⟩ := hyes
    obtain ⟨I, hI⟩ := Sp.spot_any u v
    have HR := Lib.hid (Index_at hx hy hu1 hv1 hu2 hv2 hI)
    have HW := Lib.hid (lwhole_in x y u v true true (inR_yes hu1 hu2) (inR_yes hv1 hv2))
    have HX : Hid (∀ w, Calls Try.prog 19 #[VS (u, v)] w fun e w' => (∃ j : Int, e = .returned (.tuple #[.int .i64 j, .bool (decide (I < 16777216))]) ∧ (I < 16777216 → j = (I : Int))) ∧ Below w.heap.size w w') := Lib.hid (fun w => by
      by_cases hf : 5000 < u.natAbs ∨ 5000 < v.natAbs
      · have hIf := Sp.far_idx hI hf
        refine (rIndex_far u v hu2 hv2 (by omega) w).mono ?_
        rintro e w' ⟨rfl, hb⟩
        exact ⟨⟨0, by rw [decide_eq_false (by omega)], fun h => by omega⟩, hb⟩
      · exact rIndex_near u v I hI (by omega) (by omega) w)
    clear hno hx hy hu1 hv1 hu2 hv2 hI
    go_enter Try.func4, Try.ntmps4
    go_wp2_with fail
    refine (first_calls w).mono ?_
    rintro e w1 ⟨rfl, hb1⟩
    have hs1 := hb1.size
    have Hb1 := Lib.hid hb1
    clear hb1
    go_wp2_with fail
    refine (HR.out w1).mono ?_
    rintro e w2 ⟨rfl, rfl⟩
    obtain ⟨b, hb⟩ : ∃ b : Bool, decide (I < 16777216) = b := ⟨_, rfl⟩
    obtain ⟨J, hJ⟩ : ∃ J : Int, (if I < 16777216 then (I : Int) else 0) = J := ⟨_, rfl⟩
    rw [hb, hJ]
    have HB := Lib.hid hb; have HJ := Lib.hid hJ
    clear hb hJ
    go_wp2_with fail
    refine (HW.out w1).mono ?_
    rintro e w3 ⟨rfl, hb3⟩
    have Hb3 := Lib.hid (Hb1.out.trans (hb3.mono hs1))
    clear hb3
    go_wp2_with fail
    have hs4 : SpIs (w3.alloc (Obj.cells #[Value.int .i64 u, Value.int .i64 v] 27)) w3.heap.size (u, v) := heap_alloc_new _ _
    have Hb4 := Lib.hid (Hb3.out.trans ((lit_below w3 #[.int .i64 u, .int .i64 v] 27).mono Hb3.out.size))
    generalize w3.alloc (Obj.cells #[Value.int .i64 u, Value.int .i64 v] 27) = w4 at *
    have c0 := hs4.c0; have c1 := hs4.c1
    dsimp only at c0 c1
    clear hs4
    go_wp2_with fail
    refine (HX.out w4).mono ?_
    rintro e w5 ⟨⟨j, rfl, hj⟩, hb5⟩
    rw [HB.out]
    have Hb5 := Lib.hid (Hb4.out.trans (hb5.mono Hb4.out.size))
    clear hb5 c0 c1
    cases b with
    | false =>
      have hI : ¬ I < 16777216 := of_decide_eq_false HB.out
      obtain rfl : 0 = J := by have := HJ.out; rw [if_neg hI] at this; exact this
      clear hj hI
      go_wp2_with fail
      go_ret
      exact ⟨rfl, Hb5.out⟩
    | true =>
      have hI : I < 16777216 := of_decide_eq_true HB.out
      obtain rfl : (I : Int) = J := by have := HJ.out; rw [if_pos hI] at this; exact this
      obtain rfl := hj hI
      clear hj hI
      go_wp2_with fail
      go_ret
      exact ⟨rfl, Hb5.out⟩
end Go.Proofs.Ytjbidjidfkkikaa
