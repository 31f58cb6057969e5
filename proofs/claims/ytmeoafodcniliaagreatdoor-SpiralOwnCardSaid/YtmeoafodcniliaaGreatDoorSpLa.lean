/- made memory for spiral.Place -/
import Derived.Test.YtmeoafodcniliaaGreatDoorSpB
import Derived.Test.YtmeoafodcniliaaGreatDoorSpK
import Derived.Laws.OwnMore
namespace Go.Proofs.YtmeoafodcniliaaGreatDoor.C24
open Go.RowKit
set_option linter.unusedSimpArgs false
set_option linter.unusedVariables false
theorem run_store_complex {P : Program} (w : World) (a : Addr) (m : Mode) (k : FloatKind) (x y : Nat) : (store a (.complex k x y) m).run P w = stored P w a (.complex k x y) m := run_store P w a _ m rfl
attribute [local go_sem] run_store_complex
theorem infoC : (Tryz.prog.info? 116).map (fun i => (i.zero, i.size, i.bytes)) = some (some (.complex .f64 0 0), 1, 16) := by kernel_rfl
theorem descCs : Tryz.prog.underlying 110 = some (.slice 116) := by kernel_rfl
def zerosC (n : Nat) : Array Value := madeCells (Value.complex .f64 0 0).cells (n * 1)
theorem zerosC_size (n : Nat) : (zerosC n).size = n := by unfold zerosC; rw [size_madeCells]; simp [Value.cells]
theorem make_c (l : Nat) (hc : l * 16 ≤ 140737488355328) (w : World) : (Instr.makeSlice 110 (.int .i64 (l : Int)) (.int .i64 (l : Int))).run Tryz.prog w =
    .ok (.slice (some ⟨w.heap.size, 0, none⟩) l l) (w.alloc (.cells (zerosC l) 116)) := by
  obtain ⟨i0, hi, hz0, hz1, hz2⟩ := info_parts infoC
  have := run_make (P := Tryz.prog) w 110 116 i0 _ descCs hi hz0 .i64 .i64 l l (by omega) (by omega) (by rw [hz2]; omega) (by omega)
  rw [this, hz1]; rfl
/-- What the places are, k of them laid. -/
def Sp.pl (T : List Int) (n : Nat) : Nat → List (Nat × Nat)
  | 0 => List.replicate n (0, 0)
  | k + 1 => (Sp.pl T n k).set (T.getD k 0).toNat (fv (Sp.spot k).1, fv (Sp.spot k).2)
/-- 0, 1 .. a - 1, and noughts. -/
def rg (n a : Nat) : List Int := (List.range n).map fun i : Nat => if i < a then (i : Int) else 0
theorem rg_length (n a : Nat) : (rg n a).length = n := by simp [rg]
theorem rg_set (n a : Nat) (h : a < n) : (rg n a).set a (a : Int) = rg n (a + 1) := by
  apply List.ext_getElem?
  intro i
  unfold rg
  rw [List.getElem?_set, List.length_map, List.length_range]
  by_cases hi : a = i
  · subst hi
    rw [if_pos rfl, if_pos h, List.getElem?_map, List.getElem?_range h]; simp
  · rw [if_neg hi, List.getElem?_map, List.getElem?_map]
    rcases Nat.lt_or_ge i n with h1 | h1
    · rw [List.getElem?_range h1]; simp only [Option.map_some]; congr 1
      by_cases h2 : i < a
      · rw [if_pos h2, if_pos (by omega)]
      · rw [if_neg h2, if_neg (by omega)]
    · rw [List.getElem?_eq_none (by simpa using h1)]; rfl
theorem rg_full (n : Nat) : rg n n = (List.range n).map fun i : Nat => (i : Int) := by
  unfold rg; apply List.map_congr_left; intro i hi; rw [if_pos (List.mem_range.1 hi)]
theorem own_zeros (w : World) (n : Nat) (hn : n ≤ 1000) : (w.alloc (.cells (zerosI n) 3)).ownsRow w.heap.size 3 1 (.slice (some ⟨w.heap.size, 0, none⟩) n n) n ((rg n 0).map VI) := by
  refine ⟨by rw [List.length_map, rg_length]; omega, Or.inr ⟨w.heap.size, n, zerosI n, rfl, Nat.le_refl _, heap_alloc_new _ _, Nat.le_refl _, by unfold maxLen; omega, by rw [zerosI_size]; omega, ?_⟩⟩
  rw [show zerosI n = madeCells #[.int .i64 0] (n * 1) from rfl, toList_madeCells_one, List.take_of_length_le (by simp)]
  unfold rg
  simp [List.map_const']
theorem own_zerosC (w : World) (n : Nat) (hn : n ≤ 16777216) : (w.alloc (.cells (zerosC n) 116)).ownsRow w.heap.size 116 1 (.slice (some ⟨w.heap.size, 0, none⟩) n n) n ((List.replicate n (0, 0)).map VC) := by
  refine ⟨by rw [List.length_map, List.length_replicate]; omega, Or.inr ⟨w.heap.size, n, zerosC n, rfl, Nat.le_refl _, heap_alloc_new _ _, Nat.le_refl _, by unfold maxLen; omega, by rw [zerosC_size]; omega, ?_⟩⟩
  rw [show zerosC n = madeCells #[.complex .f64 0 0] (n * 1) from rfl, toList_madeCells_one, List.take_of_length_le (by simp), List.map_replicate, Nat.mul_one]
theorem Sp.pl_length (T : List Int) (n : Nat) : ∀ k, (Sp.pl T n k).length = n
  | 0 => by unfold Sp.pl; simp
  | k + 1 => by unfold Sp.pl; rw [List.length_set]; exact Sp.pl_length T n k
theorem Sp.bub_mem (lt : Int → Int → Bool) (a : Nat) : ∀ (j : Nat) (X : List Int), j < X.length → ∀ z ∈ Sp.bub lt a j X, z ∈ X
  | 0, X, _, z, hz => hz
  | j + 1, X, h, z, hz => by
    unfold Sp.bub at hz
    split at hz
    · exact Sp.swp_mem X j h z (Sp.bub_mem lt a j (Sp.swp X j) (by rw [Sp.swp_length]; omega) z hz)
    · exact hz
theorem Sp.insN_mem (lt : Int → Int → Bool) (a : Nat) : ∀ (k i : Nat) (X : List Int), i + k ≤ X.length → (∀ z ∈ Sp.insN lt a k i X, z ∈ X) ∧ (Sp.insN lt a k i X).length = X.length
  | 0, i, X, _ => ⟨fun _ h => h, rfl⟩
  | k + 1, i, X, h => by
    have hl := Sp.bub_length lt a i X
    obtain ⟨h1, h2⟩ := Sp.insN_mem lt a k (i + 1) (Sp.bub lt a i X) (by rw [hl]; omega)
    unfold Sp.insN
    exact ⟨fun z hz => Sp.bub_mem lt a i X (by omega) z (h1 z hz), by rw [h2, hl]⟩
theorem own_ne {w w' : World} {base g gx n cap k : Nat} {t : TypeId} {xs : List Value} (ho : w.ownsRow base t 1 (.slice (some ⟨g, 0, none⟩) n cap) k xs) (hne : gx ≠ g) (hu : Upd gx w w') : w'.ownsRow base t 1 (.slice (some ⟨g, 0, none⟩) n cap) k xs := by
  refine ho.kept hu ?_
  right; simp [Value.ownBlock]; omega
end Go.Proofs.YtmeoafodcniliaaGreatDoor.C24
