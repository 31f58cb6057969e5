/- What a row of frames is in memory -/
import Derived.Test.YtnbagbenpojpnaaDoorFr5
namespace Go.Proofs.YtnbagbenpojpnaaDoor
open Go.RowKit
set_option linter.unusedSimpArgs false
set_option linter.unusedVariables false
abbrev FrL := List (BitVec 8 × List (BitVec 8))
/-- The cells of a slice of frames, each payload in memory of its own. -/
def FrSl (w : World) (base : Nat) (cells : List Value) (fs : FrL) : Prop :=
  cells.length = fs.length * 2 ∧ ∀ (i : Nat) (k : BitVec 8) (p : List (BitVec 8)), fs[i]? = some (k, p) → ∃ A cap, cells[2 * i]? = some (.int .i64 (n8 k : Int)) ∧ cells[2 * i + 1]? = some (.slice A p.length cap) ∧
    w.ownsRow base 5 1 (.slice A p.length cap) p.length (p.map V8)
theorem FrSl.nil (w : World) (base : Nat) : FrSl w base [] [] := ⟨rfl, fun i k p h => by simp at h⟩
theorem FrSl.snoc {w : World} {base : Nat} {cells : List Value} {fs : FrL} (h : FrSl w base cells fs) {k : BitVec 8} {p : List (BitVec 8)} {A : Option Addr} {cap : Nat} (ho : w.ownsRow base 5 1 (.slice A p.length cap) p.length (p.map V8)) :
    FrSl w base (cells ++ [.int .i64 (n8 k : Int), .slice A p.length cap]) (fs ++ [(k, p)]) := by
  refine ⟨by simp [h.1]; omega, fun i k' p' hi => ?_⟩
  rcases Nat.lt_trichotomy i fs.length with hl | hl | hl
  · rw [List.getElem?_append_left hl] at hi
    obtain ⟨A', cap', a, b, c⟩ := h.2 i k' p' hi
    refine ⟨A', cap', ?_, ?_, c⟩
    · rw [List.getElem?_append_left (by rw [h.1]; omega)]; exact a
    · rw [List.getElem?_append_left (by rw [h.1]; omega)]; exact b
  · subst hl
    simp at hi
    obtain ⟨rfl, rfl⟩ := hi
    refine ⟨A, cap, ?_, ?_, ho⟩
    · rw [List.getElem?_append_right (by rw [h.1]; omega), h.1, show 2 * fs.length - fs.length * 2 = 0 by omega]; rfl
    · rw [List.getElem?_append_right (by rw [h.1]; omega), h.1, show 2 * fs.length + 1 - fs.length * 2 = 1 by omega]; rfl
  · rw [List.getElem?_eq_none (by simp; omega)] at hi; cases hi
theorem FrSl.go {w w' : World} {base : Nat} {cells : List Value} {fs : FrL} (h : FrSl w base cells fs)
    (hg : ∀ (A : Option Addr) (n cap : Nat) (xs : List Value), w.ownsRow base 5 1 (.slice A n cap) n xs → w'.ownsRow base 5 1 (.slice A n cap) n xs) : FrSl w' base cells fs :=
  ⟨h.1, fun i k p hi => by obtain ⟨A, cap, a, b, c⟩ := h.2 i k p hi; exact ⟨A, cap, a, b, hg _ _ _ _ c⟩⟩
theorem FrSl.below {w w' : World} {base B : Nat} {cells : List Value} {fs : FrL} (h : FrSl w base cells fs) (hb : Below B w w') (hB : w.heap.size ≤ B) : FrSl w' base cells fs :=
  h.go fun _ _ _ _ ho => own_below ho hb hB
/-- An append to a row of another type leaves a row as it was. -/
theorem own_grown_other {w w' : World} {base base2 s2 : Nat} {t t2 : TypeId} {v v2 : Value} {n n2 : Nat} {xs xs2 : List Value} (h : w.ownsRow base t 1 v n xs) (h2 : w.ownsRow base2 t2 s2 v2 n2 xs2) (hne : t ≠ t2) (hg : w.grownBy w' v2.ownBlock) : w'.ownsRow base t 1 v n xs := by
  refine h.kept hg ?_
  rcases h.2 with ⟨rfl, _⟩ | ⟨g, cap, cur, rfl, _, hgg, _⟩
  · exact Or.inl rfl
  · right
    rcases h2.2 with ⟨rfl, _⟩ | ⟨g2, cap2, cur2, rfl, _, hgg2, _⟩
    · simp [Value.ownBlock]
    · simp only [Value.ownBlock, ne_eq, Option.some.injEq]
      intro hc; subst hc; rw [hgg] at hgg2; injection hgg2 with hq; injection hq with _ hq _; exact hne hq
theorem infoFr : (Tryd.prog.info? 24).map (fun i => (i.zero, i.size, i.bytes)) = some (some (.agg #[.int .i64 0, .slice none 0 0]), 2, 32) := by kernel_rfl
theorem descFrs : Tryd.prog.underlying 42 = some (.slice 24) := by kernel_rfl
theorem rd_drop8 {w : World} {B blk off : Nat} {bs : List (BitVec 8)} (h : Rd w B (some ⟨blk, off, none⟩) (bs.map V8)) (o : Nat) : Rd w B (some ⟨blk, off + o, none⟩) ((bs.drop o).map V8) := by
  have := rd_sub8 h o (bs.drop o).length
  rwa [List.take_length] at this
/-- What a call of Row answers. -/
def RowAns (bs : List (BitVec 8)) (w : World) (e : Ending) (w' : World) : Prop :=
  Below w.heap.size w w' ∧ ∃ A' cap' cells, e = .returned (.tuple #[.slice A' (Fr.rows bs.length bs).length cap', .int .i64 (Fr.rowsAt bs.length bs : Int), .int .i64 (if Fr.rowsAt bs.length bs = bs.length then 0 else 32)]) ∧
    w'.ownsRow w.heap.size 24 2 (.slice A' (Fr.rows bs.length bs).length cap') (Fr.rows bs.length bs).length cells ∧ FrSl w' w.heap.size cells (Fr.rows bs.length bs)
theorem own_size {w : World} {base s : Nat} {t : TypeId} {v : Value} {n : Nat} {xs : List Value} (h : w.ownsRow base t s v n xs) : ∃ A cap, v = .slice A n cap := by
  rcases h.2 with ⟨rfl, rfl⟩ | ⟨g, cap, cur, rfl, _⟩
  · exact ⟨_, _, rfl⟩
  · exact ⟨_, _, rfl⟩
theorem own_below_s {w w' : World} {base s : Nat} {t : TypeId} {v : Value} {n : Nat} {xs : List Value} {B : Nat} (h : w.ownsRow base t s v n xs) (hb : Below B w w') (hB : w.heap.size ≤ B) : w'.ownsRow base t s v n xs :=
  h.kept (row := none) ⟨hb.os, hb.tape, hb.output, hb.size, fun k hk _ => hb.block k (Nat.lt_of_lt_of_le hk hB)⟩ (by cases hv : v.ownBlock <;> simp)
end Go.Proofs.YtnbagbenpojpnaaDoor
