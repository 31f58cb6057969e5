/- pithlaw24.whole -/
import Derived.Test.YtjbidjidfkkikaaSpW
namespace Go.Proofs.Ytjbidjidfkkikaa
open Go.RowKit
set_option linter.unusedSimpArgs false
set_option linter.unusedVariables false
set_option maxHeartbeats 4000000 in
theorem lwhole_out (x y : Nat) (h : OutR x ∨ ((∃ T b, InR x T b) ∧ OutR y)) (w : World) : Calls Try.prog 18 #[.complex .f64 x y] w fun e w' => e = .returned (.tuple #[VS (0, 0), .bool false]) ∧ Below w.heap.size w w' := by
  go_enter Try.func18, Try.ntmps18
  have hs : SpIs (w.alloc (Obj.cells #[Value.int .i64 0, Value.int .i64 0] 27)) w.heap.size (0, 0) := heap_alloc_new _ _
  have hb : Below w.heap.size w (w.alloc (Obj.cells #[Value.int .i64 0, Value.int .i64 0] 27)) := (Below.refl _ _).alloc (Nat.le_refl _) _
  have c0 := hs.c0; have c1 := hs.c1; have f0 := hs.f0 0; have f1 := hs.f0 1
  have HF := Lib.hid hs; have Hb := Lib.hid hb
  clear hs hb
  rcases h with (h | ⟨h1, h2⟩) | ⟨⟨T, b, h1, h2, _, _⟩, (h3 | ⟨h3, h4⟩)⟩
  all_goals
    go_wp2_with fail
    refine bodyPost_ret (results_spot2 rfl _ _ w.heap.size 27 _ (0, 0) rfl HF.out spot_desc spot_size) rfl ?_
    exact ⟨rfl, Hb.out⟩
set_option maxHeartbeats 4000000 in
theorem lwhole_in (x y : Nat) (T U : Int) (b c : Bool) (hx : InR x T b) (hy : InR y U c) (w : World) : Calls Try.prog 18 #[.complex .f64 x y] w fun e w' => e = .returned (.tuple #[VS (T, U), .bool (b && c)]) ∧ Below w.heap.size w w' := by
  obtain ⟨h1, h2, h3, h4⟩ := hx
  obtain ⟨k1, k2, k3, k4⟩ := hy
  go_enter Try.func18, Try.ntmps18
  go_wp2_with fail
  have hs2 : SpIs ((w.alloc (Obj.cells #[Value.int .i64 0, Value.int .i64 0] 27)).alloc (Obj.cells #[Value.int .i64 T, Value.int .i64 U] 27)) (w.heap.size + 1) (T, U) := by
    have := heap_alloc_new (w.alloc (Obj.cells #[Value.int .i64 0, Value.int .i64 0] 27)) (Obj.cells #[Value.int .i64 T, Value.int .i64 U] 27)
    unfold SpIs; simpa using this
  have hs1 : SpIs ((w.alloc (Obj.cells #[Value.int .i64 0, Value.int .i64 0] 27)).alloc (Obj.cells #[Value.int .i64 T, Value.int .i64 U] 27)) w.heap.size (0, 0) := by
    unfold SpIs; rw [Below.heap_alloc _ _ _ (by simp), heap_alloc_new]
  have hb : Below w.heap.size w ((w.alloc (Obj.cells #[Value.int .i64 0, Value.int .i64 0] 27)).alloc (Obj.cells #[Value.int .i64 T, Value.int .i64 U] 27)) := ((Below.refl _ _).alloc (Nat.le_refl _) _).alloc (by simp) _
  generalize (w.alloc (Obj.cells #[Value.int .i64 0, Value.int .i64 0] 27)).alloc (Obj.cells #[Value.int .i64 T, Value.int .i64 U] 27) = w1 at *
  have c0 := hs1.c0; have c1 := hs1.c1; have f0 := hs1.f0 0; have f1 := hs1.f0 1
  have d0 := hs2.c0; have d1 := hs2.c1
  have Hs1 := Lib.hid hs1; have Hs2 := Lib.hid hs2; have Hb := Lib.hid hb
  clear hs1 hs2 hb h1 h2 h3 k1 k2 k3
  have HF := Lib.hid ((Hs1.out.s0 T).s1 U); have HFb := Lib.hid (below_set (o := 1) (v := .int .i64 U) (below_set (o := 0) (v := .int .i64 T) Hb.out (Nat.le_refl _)) (Nat.le_refl _))
  cases b
  all_goals
    go_big_region
    have HF2 : SpIs (((w1.setCell ⟨w.heap.size, 0, none⟩ (.int .i64 T)).setCell ⟨w.heap.size, 1, none⟩ (.int .i64 U)).drew) w.heap.size (T, U) := HF.out
    have HF3 := below_drewN HFb.out 1
    change Below w.heap.size w (((w1.setCell ⟨w.heap.size, 0, none⟩ (.int .i64 T)).setCell ⟨w.heap.size, 1, none⟩ (.int .i64 U)).drew) at HF3
    generalize ((w1.setCell ⟨w.heap.size, 0, none⟩ (.int .i64 T)).setCell ⟨w.heap.size, 1, none⟩ (.int .i64 U)).drew = w2 at *
    go_wp2_with fail
    refine bodyPost_ret (results_spot2 rfl _ _ w.heap.size 27 _ (0, 0) rfl HF2 spot_desc spot_size) rfl ?_
    exact ⟨by first | rfl | (simp [k4]), HF3⟩
theorem lwhole_no (x y : Nat) (hx : x < 18446744073709551616) (hy : y < 18446744073709551616) (hn : ¬ Yes x ∨ (Yes x ∧ ¬ Yes y)) (w : World) : Calls Try.prog 18 #[.complex .f64 x y] w fun e w' => (∃ p, e = .returned (.tuple #[VS p, .bool false])) ∧ Below w.heap.size w w' := by
  have out : ∀ {x y : Nat} (h : OutR x ∨ ((∃ T b, InR x T b) ∧ OutR y)), Calls Try.prog 18 #[.complex .f64 x y] w fun e w' => (∃ p, e = .returned (.tuple #[VS p, .bool false])) ∧ Below w.heap.size w w' := fun h => by
    refine (lwhole_out _ _ h w).mono ?_
    rintro e w' ⟨rfl, hb⟩
    exact ⟨⟨_, rfl⟩, hb⟩
  have inn : ∀ {x y : Nat} {T U : Int} {b c : Bool} (h : InR x T b) (k : InR y U c), (b && c) = false → Calls Try.prog 18 #[.complex .f64 x y] w fun e w' => (∃ p, e = .returned (.tuple #[VS p, .bool false])) ∧ Below w.heap.size w w' := fun h k hbc => by
    refine (lwhole_in _ _ _ _ _ _ h k w).mono ?_
    rintro e w' ⟨rfl, hb⟩
    rw [hbc]
    exact ⟨⟨_, rfl⟩, hb⟩
  rcases rangeOf x hx with ⟨v, h1, h2, h3⟩ | ⟨h1, h2⟩
  · have hyn : ¬ Yes y := by
      rcases hn with h | ⟨_, h⟩
      · exact absurd ⟨v, h1, h2⟩ h
      · exact h
    rcases rangeOf y hy with ⟨u, k1, k2, k3⟩ | ⟨k1, (⟨U, k2⟩ | k2)⟩
    · exact absurd ⟨u, k1, k2⟩ hyn
    · exact inn h3 k2 rfl
    · exact out (Or.inr ⟨⟨v, true, h3⟩, k2⟩)
  · rcases h2 with ⟨T, h2⟩ | h2
    · rcases rangeOf y hy with ⟨u, k1, k2, k3⟩ | ⟨k1, (⟨U, k2⟩ | k2)⟩
      · exact inn h2 k3 rfl
      · exact inn h2 k2 rfl
      · exact out (Or.inr ⟨⟨T, false, h2⟩, k2⟩)
    · exact out (Or.inl h2)
theorem labs_calls (n : Int) (h1 : -4611686018427387904 ≤ n) (h2 : n ≤ 4611686018427387904) (w : World) : Calls Try.prog 21 #[.int .i64 n] w fun e w' => e = .returned (.int .i64 (n.natAbs : Int)) ∧ w = w' := by
  go_enter Try.func21, Try.ntmps21
  rcases Int.lt_or_le n (-n) with h3 | h3
  · have Hm := Lib.hid (show (n.natAbs : Int) = -n by omega)
    go_wp2_with fail
    go_ret
    exact ⟨by rw [Hm.out]; rfl, rfl⟩
  · have Hm := Lib.hid (show (n.natAbs : Int) = n by omega)
    go_wp2_with fail
    go_ret
    exact ⟨by rw [Hm.out]; rfl, rfl⟩
end Go.Proofs.Ytjbidjidfkkikaa
