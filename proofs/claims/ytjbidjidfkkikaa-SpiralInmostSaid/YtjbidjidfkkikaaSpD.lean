/- pithref24.At, pithlaw24.plain -/
import Derived.Test.YtjbidjidfkkikaaSpC
namespace Go.Proofs.Ytjbidjidfkkikaa
open Go.RowKit
set_option linter.unusedSimpArgs false
set_option linter.unusedVariables false
theorem results_spot2 {P : Program} {fn : Func} {p u : Tmp} {ty : TypeId} (h : fn.results = #[.cell p ty, .tmp u]) (tmps : Array Value) (w : World) (g : Nat) (t : TypeId) (cs : Array Value) (fr : Nat × Nat)
    (hp : tmps.getD p undef = .pointer (some ⟨g, 0, none⟩)) (hg : w.heap[g]? = some (.cells cs t fr))
    (hu : (P.underlying ty).map aggDesc = some true) (hi : (P.info? ty).map (·.size) = some cs.size) :
    (results fn tmps).run P w = .ok (.tuple #[.agg cs, tmps.getD u undef]) w := by
  have hp' : tmps[p]?.getD undef = .pointer (some ⟨g, 0, none⟩) := by simpa using hp
  obtain ⟨d, h1, h2⟩ := agg_of hu
  simp [results, h, hp', asAddr, run_loadVar_row w g t ty cs fr d hg h1 (by cases d <;> simp_all [aggDesc]) hi]
abbrev VS (p : Int × Int) : Value := .agg #[.int .i64 p.1, .int .i64 p.2]
theorem At_calls (N : Nat) (hN : N < 16777216) (w : World) : Calls Try.prog 15 #[.int .i64 (N : Int)] w fun e w' => e = .returned (.tuple #[VS (Sp.spot N), .bool true]) ∧ Below w.heap.size w w' := by
  go_enter Try.func15, Try.ntmps15
  have h2 : ¬ (16777216 : Int) ≤ (N : Int) := by omega
  go_wp2_with fail
  have hs : SpIs (w.alloc (Obj.cells #[Value.int .i64 0, Value.int .i64 0] 27)) w.heap.size (0, 0) := heap_alloc_new _ _
  have hb : Below w.heap.size w (w.alloc (Obj.cells #[Value.int .i64 0, Value.int .i64 0] 27)) := (Below.refl _ _).alloc (Nat.le_refl _) _
  have hlt : w.heap.size < (w.alloc (Obj.cells #[Value.int .i64 0, Value.int .i64 0] 27)).heap.size := by simp
  generalize w.alloc (Obj.cells #[Value.int .i64 0, Value.int .i64 0] 27) = w1 at *
  refine (Walk_calls N hN w1).mono ?_
  rintro e w2 ⟨rfl, hb2⟩
  have hs2 := hs.below hb2 hlt
  have c0 := hs2.c0; have c1 := hs2.c1; have f0 := hs2.f0 0; have f1 := hs2.f0 1
  have Hs := Lib.hid hs2; have Hb := Lib.hid (hb.trans (hb2.mono (Nat.le_of_lt hlt)))
  clear hs2 hs hb hb2
  go_wp2_with fail
  have hF := (Hs.out.s0 (Sp.spot N).1).s1 (Sp.spot N).2
  refine bodyPost_ret (results_spot2 rfl _ _ w.heap.size 27 _ (0, 0) rfl hF spot_desc spot_size) rfl ?_
  exact ⟨rfl, below_set (below_set Hb.out (Nat.le_refl _)) (Nat.le_refl _)⟩
theorem At_out (i : Int) (hi : i < 0 ∨ 16777216 ≤ i) (w : World) : Calls Try.prog 15 #[.int .i64 i] w fun e w' => e = .returned (.tuple #[VS (0, 0), .bool false]) ∧ Below w.heap.size w w' := by
  go_enter Try.func15, Try.ntmps15
  have hs : SpIs (w.alloc (Obj.cells #[Value.int .i64 0, Value.int .i64 0] 27)) w.heap.size (0, 0) := heap_alloc_new _ _
  have hb : Below w.heap.size w (w.alloc (Obj.cells #[Value.int .i64 0, Value.int .i64 0] 27)) := (Below.refl _ _).alloc (Nat.le_refl _) _
  have c0 := hs.c0; have c1 := hs.c1; have f0 := hs.f0 0; have f1 := hs.f0 1
  have Hs := Lib.hid hs; have Hb := Lib.hid hb
  clear hs hb
  rcases (by omega : i < 0 ∨ (¬ i < 0 ∧ (16777216 : Int) ≤ i)) with h1 | ⟨h1, h2⟩
  all_goals clear hi
  all_goals go_wp2_with fail
  all_goals refine bodyPost_ret (results_spot2 rfl _ _ w.heap.size 27 _ (0, 0) rfl Hs.out spot_desc spot_size) rfl ?_
  all_goals exact ⟨rfl, Hb.out⟩
theorem div_pos_zero : Ieee.double.div 4607182418800017408 0 = some 9218868437227405312 := by decide
theorem inf_gt : Ieee.double.order 9218868437227405312 0 = some .gt := by decide
theorem ord_self {b : Nat} {v : Int} (h : Fl.IsN b v) : FloatKind.f64.format.order b b = some .eq := by
  have := h.order h
  rw [show compare v v = Ordering.eq by rw [show compare v v = compareOfLessAndEq v v from rfl]; unfold compareOfLessAndEq; rw [if_neg (by omega), if_pos rfl]] at this
  exact this
theorem ord_zero (v : Int) (h : v.natAbs < 2 ^ 53) : (v = 0 ∧ fv v = 0) ∨ (v ≠ 0 ∧ FloatKind.f64.format.order (fv v) 0 = some .lt) ∨ (v ≠ 0 ∧ FloatKind.f64.format.order (fv v) 0 = some .gt) := by
  have := (fv_n v h).order zero_n
  rcases (by omega : v = 0 ∨ v < 0 ∨ 0 < v) with h0 | h0 | h0
  · exact Or.inl ⟨h0, by rw [h0]; rfl⟩
  · right; left; refine ⟨by omega, ?_⟩
    rw [show compare v 0 = Ordering.lt by rw [show compare v 0 = compareOfLessAndEq v 0 from rfl]; unfold compareOfLessAndEq; rw [if_pos h0]] at this
    exact this
  · right; right; refine ⟨by omega, ?_⟩
    rw [show compare v 0 = Ordering.gt by rw [show compare v 0 = compareOfLessAndEq v 0 from rfl]; unfold compareOfLessAndEq; rw [if_neg (by omega), if_neg (by omega)]] at this
    exact this
set_option maxHeartbeats 4000000 in
theorem plain_calls (p : Int × Int) (h1 : p.1.natAbs < 2 ^ 53) (h2 : p.2.natAbs < 2 ^ 53) (w : World) : Calls Try.prog 16 #[.complex .f64 (fv p.1) (fv p.2), VS p] w fun e w' => e = .returned (.bool true) ∧ Below w.heap.size w w' := by
  obtain ⟨x, y⟩ := p
  dsimp only at h1 h2 ⊢
  have ox := ord_self (fv_n x h1); have oy := ord_self (fv_n y h2)
  have zx := ord_zero x h1; have zy := ord_zero y h2
  have cx := conv_if x; have cy := conv_if y
  have g := fun w => run_float_arith (P := Try.prog) w .quo 32 .f64 4607182418800017408 0 _ div_pos_zero
  have og : FloatKind.f64.format.order 9218868437227405312 0 = some .gt := inf_gt
  have o0 : FloatKind.f64.format.order 0 0 = some .eq := by decide
  have hs : SpIs (w.alloc (Obj.cells #[Value.int .i64 x, Value.int .i64 y] 27)) w.heap.size (x, y) := heap_alloc_new _ _
  have Hb := Lib.hid (show Below w.heap.size w (w.alloc (Obj.cells #[Value.int .i64 x, Value.int .i64 y] 27)) from (Below.refl _ _).alloc (Nat.le_refl _) _)
  have c0 := hs.c0; have c1 := hs.c1
  dsimp only at c0 c1
  clear hs h1 h2
  dsimp only [fv] at ox oy zx zy ⊢
  generalize ex : floatOfInt .f64 x = bx at *
  generalize ey : floatOfInt .f64 y = bY at *
  go_enter Try.func16, Try.ntmps16
  rcases zx with ⟨nx, zx⟩ | ⟨nx, zx⟩ | ⟨nx, zx⟩ <;> rcases zy with ⟨ny, zy⟩ | ⟨ny, zy⟩ | ⟨ny, zy⟩
  all_goals clear nx ny
  all_goals try subst zx
  all_goals try subst zy
  all_goals go_wp2_with fail
  all_goals go_ret
  all_goals exact ⟨rfl, (Below.refl _ _).alloc (Nat.le_refl _) _⟩
end Go.Proofs.Ytjbidjidfkkikaa
