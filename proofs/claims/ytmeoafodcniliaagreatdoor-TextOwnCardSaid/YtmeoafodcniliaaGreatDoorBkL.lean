/- what a law has beside the book -/
import Derived.Test.YtmeoafodcniliaaGreatDoorBkT
namespace Go.Proofs.YtmeoafodcniliaaGreatDoor
open Go.RowKit
set_option linter.unusedSimpArgs false
set_option linter.unusedVariables false
namespace Bk
/-- A row of one's own that the book does not know. -/
def Row (U : Nat → Prop) (w : World) (e s : Nat) (v : Value) (n : Nat) (xs : List Value) : Prop := w.ownsRow 0 e s v n xs ∧ ∀ g, v.ownBlock = some g → ¬ U g
section
variable {U F : Nat → Prop} {w w' w0 : World} {e s e2 s2 n n2 base base2 : Nat} {v u l : Value} {xs ys : List Value} {used : Nat → Bool} {kb N : Nat}
theorem Row.below (h : Row U w e s v n xs) (hb : Below w.heap.size w w') : Row U w' e s v n xs := ⟨own_below_any h.1 hb, h.2⟩
theorem Row.kept (h : Row U w e s v n xs) (hk : Kept F w w') (hF : ∀ g, v.ownBlock = some g → ¬ F g) : Row U w' e s v n xs := ⟨own_kept h.1 hk hF, h.2⟩
theorem Row.keep (h : Row U w e s v n xs) (hk : Kept U w w') (hs : Sep v l) : Row (more U w w' l) w' e s v n xs :=
  ⟨own_kept h.1 hk h.2, fun g hg hx => by
    rcases hx with h1 | h1 | h1
    · exact h.2 g hg h1
    · exact hs g hg h1
    · have := (own_blk h.1 hg).2; omega⟩
theorem Row.finish (h : Row U w e s v n xs) (hk : Kept U w w') : Row U w' e s v n xs := ⟨own_kept h.1 hk h.2, h.2⟩
theorem Row.fresh (ho : w'.ownsRow w.heap.size e s v n xs) (hU : ∀ g, U g → g < w.heap.size) : Row U w' e s v n xs :=
  ⟨own_zero ho, fun g hg hx => by have := (own_blk ho hg).1; have := hU g hx; omega⟩
theorem sep_new (hv : w.ownsRow base e s v n xs) (hu : w'.ownsRow w.heap.size e2 s2 u n2 ys) : Sep v u := fun g h1 h2 => by
  have := (own_blk hv h1).2; have := (own_blk hu h2).1; omega
theorem sep_type (hv : w.ownsRow base e s v n xs) (hu : w.ownsRow base2 e2 s2 u n2 ys) (h : e ≠ e2) : Sep v u := fun g h1 h2 => own_apart hv hu h h1 h2
theorem Is.ult (h : Is used w kb U N) : ∀ g, U g → g < w.heap.size := fun g hg => h.lt hg
theorem Is.weak {M : Nat} (h : Is used w kb U N) (hM : N ≤ M) : Is used w kb U M := by
  obtain ⟨vs, ws, hv, hw, a⟩ := h
  exact ⟨vs, ws, hv, hw, a.bk, a.k, a.len, a.same, a.apart, fun K hK => Nat.le_trans (a.few K hK) hM, a.used, a.ukb, a.uhv, a.uhw, a.ult⟩
theorem more_low {B : Nat} (hU : ∀ g, U g → B ≤ g) (hl : ∀ g, l.ownBlock = some g → B ≤ g) (hB : B ≤ w.heap.size) : ∀ g, more U w w' l g → B ≤ g := fun g hg => by
  rcases hg with h1 | h1 | h1
  · exact hU g h1
  · exact hl g h1
  · omega
theorem kept_low {B : Nat} (hb : Below B w0 w) (hk : Kept U w w') (hU : ∀ g, U g → B ≤ g) (hB : B ≤ w.heap.size) : Below B w0 w' := hb.trans (hk.below hB hU)
/-- The empty book's cells. -/
def book0 : Array Value := #[.int .i64 0, .int .i64 0] ++ Array.replicate 51 (.slice none 0 0)
theorem book0_get (i : Nat) (h : 2 ≤ i) (h2 : i < 53) : book0[i]? = some (.slice none 0 0) := by
  unfold book0
  rw [Array.getElem?_append_right (by simpa using h)]
  rw [Array.getElem?_replicate, if_pos (by simp; omega)]
/-- A new book. -/
theorem Is.new (used : Nat → Bool) (w : World) : Is used (w.alloc (.cells book0 44)) w.heap.size (fun g => g = w.heap.size) 0 := by
  have hg := heap_alloc_new w (.cells book0 44)
  have hc : ∀ f, 2 ≤ f → f < 53 → (w.alloc (.cells book0 44)).cell? ⟨w.heap.size, f, none⟩ = some (.slice none 0 0) := fun f h1 h2 => by rw [cell_heap hg]; exact book0_get f h1 h2
  refine ⟨fun _ => [], fun _ => [], fun _ => .slice none 0 0, fun _ => .slice none 0 0, ⟨_, hg, by simp [book0], by rfl, by rfl⟩, fun K hK => ⟨⟨hc _ (by omega) (by omega), World.ownsRow_nil _ _ _ _⟩, ⟨hc _ (by omega) (by omega), World.ownsRow_nil _ _ _ _⟩, hc _ (by omega) (by omega), sep_nil _ _ _⟩,
    fun K _ => rfl, (fun K _ i v hv => by simp at hv), (fun K _ i j u v _ hu => by simp at hu), fun K _ => Nat.le_refl _, fun K _ => .inr rfl, rfl, (fun K _ g hg => by cases hg), (fun K _ g hg => by cases hg), fun g hg => ?_⟩
  show g < _
  rw [show g = w.heap.size from hg]; simp
end
section
variable {dst : Option Tmp} {ty : TypeId} {pos : String} {af : Array Edge} {gd : Option (Nat × Bool)} {x : Operand} {a : Act} {w : World} {K : Act → World → Prop} {Q : Exit → Act → World → Prop}
theorem build_book : Oper.wp Tryz.prog ⟨dst, .build 44 #[], ty, pos, af, gd⟩ a w K Q = K (a.put dst (.agg book0)) w := by
  have h := run_build (P := Tryz.prog) w 44 #[] book0 (by kernel_rfl)
  unfold Oper.wp execOp
  simp only [Array.map_empty, Sem.run_bind, Sem.run_pure, Result.andThen_ok, h]
  rfl
theorem box_book (h : a.eval x = .agg book0) : Oper.wp Tryz.prog ⟨dst, .box 44 x, ty, pos, af, gd⟩ a w K Q = K (a.put dst (.pointer (some ⟨w.heap.size, 0, none⟩))) (w.alloc (.cells book0 44)) := by
  unfold Oper.wp execOp
  simp only [h]
  rfl
end
/-- Which kinds hold lists. -/
def only (l : List Nat) (K : Nat) : Bool := l.contains K
end Bk
end Go.Proofs.YtmeoafodcniliaaGreatDoor
