/- the marks of the book's lists -/
import Derived.Test.YtmeoafodcniliaaGreatDoorBkM
import Derived.Test.YtmeoafodcniliaaGreatDoorProg
namespace Go.Proofs.YtmeoafodcniliaaGreatDoor
open Go.RowKit
set_option linter.unusedSimpArgs false
set_option linter.unusedVariables false
namespace Bk
/-- The mark of a list's element: kind, pass, the list's number, the element's. -/
def mkV : Nat → Int → Int → Int → Value
  | 0, p, id, j => .int .u8 (if p = 1 then wrap64 (wrap64 (id * 97) + wrap64 (j * 31)) % 256 else wrap64 (wrap64 (wrap64 (wrap64 (wrap64 (id.tdiv 256) * 59) + wrap64 (j * 13)) + wrap64 (Int.tmod id 256 * 3)) + 1) % 256)
  | 1, p, id, j => .int .i64 (wrap64 (wrap64 (wrap64 (id * 1000) + wrap64 (2 * j)) + p))
  | 4, p, id, j => .complex .f64 (floatOfInt .f64 id) (floatOfInt .f64 (wrap64 (wrap64 (2 * j) + p)))
  | 7, p, id, j => .agg #[.int .i64 id, .int .i64 (wrap64 (wrap64 (2 * j) + p))]
  | 8, p, id, j => .agg #[.int .i64 id, .int .i64 (wrap64 (wrap64 (2 * j) + p)), .bool false]
  | 13, p, id, j => .agg #[.int .i64 (wrap64 (wrap64 (wrap64 (id * 1000) + wrap64 (2 * j)) + p)), .slice none 0 0]
  | _, _, _, _ => .bool false
theorem cell_alloc_lt {w : World} {g o : Nat} (O : Obj) (h : g < w.heap.size) : (w.alloc O).cell? ⟨g, o, none⟩ = w.cell? ⟨g, o, none⟩ := ((Below.refl w.heap.size w).alloc (Nat.le_refl _) O).cell (p := ⟨g, o, none⟩) h
theorem cell_lt {w : World} {a : Addr} {v : Value} (h : w.cell? a = some v) : a.block < w.heap.size := by
  rcases Nat.lt_or_ge a.block w.heap.size with h1 | h1
  · exact h1
  · simp [World.cell?, Array.getElem?_eq_none h1] at h
theorem agg_of' {P : Program} {ty : TypeId} (h : (P.underlying ty).map aggDesc = some true) : ∃ d, P.underlying ty = some d ∧ aggDesc d = true := by
  cases hd : P.underlying ty with
  | none => rw [hd] at h; cases h
  | some d => rw [hd] at h; exact ⟨d, rfl, by simpa using h⟩
theorem res_cell {P : Program} {fn : Func} {p : Tmp} {ty : TypeId} (h : fn.results = #[.cell p ty]) (tmps : Array Value) (w : World) (g : Nat) (t : TypeId) (cs : Array Value) (fr : Nat × Nat)
    (hp : tmps.getD p undef = .pointer (some ⟨g, 0, none⟩)) (hg : w.heap[g]? = some (.cells cs t fr)) (hu : (P.underlying ty).map aggDesc = some true) (hi : (P.info? ty).map (·.size) = some cs.size) :
    (results fn tmps).run P w = .ok (.agg cs) w := by
  obtain ⟨d, h1, h2⟩ := agg_of' hu
  exact results_cell_row h tmps w g t cs fr d hp hg h1 (by cases d <;> simp_all [aggDesc]) hi
theorem mark0_calls (kb : Nat) (p id j : Int) (w : World) (hp : w.cell? ⟨kb, 1, none⟩ = some (.int .i64 p)) :
    Calls Tryz.prog 205 #[.pointer (some ⟨kb, 0, none⟩), .int .i64 id, .int .i64 j] w fun e w' => e = .returned (mkV 0 p id j) ∧ Below w.heap.size w w' := by
  go_enter Tryz.func205, Tryz.ntmps205
  by_cases h : p = 1
  · subst h
    go_wp2_with fail
    go_ret
    exact ⟨by simp [mkV], Below.refl _ _⟩
  · have h1 : (p == 1) = false := by simpa using h
    have H := Lib.hid h
    clear h
    go_wp2_with fail
    go_ret
    refine ⟨?_, Below.refl _ _⟩
    simp only [mkV]
    rw [if_neg H.out]
    rfl
theorem mark1_calls (kb : Nat) (p id j : Int) (w : World) (hp : w.cell? ⟨kb, 1, none⟩ = some (.int .i64 p)) :
    Calls Tryz.prog 206 #[.pointer (some ⟨kb, 0, none⟩), .int .i64 id, .int .i64 j] w fun e w' => e = .returned (mkV 1 p id j) ∧ Below w.heap.size w w' := by
  go_enter Tryz.func206, Tryz.ntmps206
  go_wp2_with fail
  go_ret
  exact ⟨rfl, Below.refl _ _⟩
theorem mark4_calls (kb : Nat) (p id j : Int) (w : World) (hp : w.cell? ⟨kb, 1, none⟩ = some (.int .i64 p)) :
    Calls Tryz.prog 209 #[.pointer (some ⟨kb, 0, none⟩), .int .i64 id, .int .i64 j] w fun e w' => e = .returned (mkV 4 p id j) ∧ Below w.heap.size w w' := by
  go_enter Tryz.func209, Tryz.ntmps209
  go_wp2_with fail
  go_ret
  exact ⟨rfl, Below.refl _ _⟩
theorem mark7_calls (kb : Nat) (p id j : Int) (w : World) (hp : w.cell? ⟨kb, 1, none⟩ = some (.int .i64 p)) :
    Calls Tryz.prog 212 #[.pointer (some ⟨kb, 0, none⟩), .int .i64 id, .int .i64 j] w fun e w' => e = .returned (mkV 7 p id j) ∧ Below w.heap.size w w' := by
  have hA : ∀ O, (w.alloc O).cell? ⟨kb, 1, none⟩ = some (.int .i64 p) := fun O => (cell_alloc_lt O (cell_lt hp)).trans hp
  go_enter Tryz.func212, Tryz.ntmps212
  go_wp2_with fail
  refine bodyPost_ret (res_cell rfl _ _ w.heap.size _ _ (0, 0) rfl (heap_alloc_new _ _) (by kernel_rfl) (by kernel_rfl)) rfl ?_
  exact ⟨rfl, (Below.refl _ _).alloc (Nat.le_refl _) _⟩
theorem mark8_calls (kb : Nat) (p id j : Int) (w : World) (hp : w.cell? ⟨kb, 1, none⟩ = some (.int .i64 p)) :
    Calls Tryz.prog 213 #[.pointer (some ⟨kb, 0, none⟩), .int .i64 id, .int .i64 j] w fun e w' => e = .returned (mkV 8 p id j) ∧ Below w.heap.size w w' := by
  have hA : ∀ O, (w.alloc O).cell? ⟨kb, 1, none⟩ = some (.int .i64 p) := fun O => (cell_alloc_lt O (cell_lt hp)).trans hp
  go_enter Tryz.func213, Tryz.ntmps213
  go_wp2_with fail
  refine bodyPost_ret (res_cell rfl _ _ w.heap.size _ _ (0, 0) rfl (heap_alloc_new _ _) (by kernel_rfl) (by kernel_rfl)) rfl ?_
  exact ⟨rfl, (Below.refl _ _).alloc (Nat.le_refl _) _⟩
theorem mark13_calls (kb : Nat) (p id j : Int) (w : World) (hp : w.cell? ⟨kb, 1, none⟩ = some (.int .i64 p)) :
    Calls Tryz.prog 218 #[.pointer (some ⟨kb, 0, none⟩), .int .i64 id, .int .i64 j] w fun e w' => e = .returned (mkV 13 p id j) ∧ Below w.heap.size w w' := by
  have hA : ∀ O, (w.alloc O).cell? ⟨kb, 1, none⟩ = some (.int .i64 p) := fun O => (cell_alloc_lt O (cell_lt hp)).trans hp
  go_enter Tryz.func218, Tryz.ntmps218
  go_wp2_with fail
  refine bodyPost_ret (res_cell rfl _ _ w.heap.size _ _ (0, 0) rfl (heap_alloc_new _ _) (by kernel_rfl) (by kernel_rfl)) rfl ?_
  exact ⟨rfl, (Below.refl _ _).alloc (Nat.le_refl _) _⟩
end Bk
end Go.Proofs.YtmeoafodcniliaaGreatDoor
