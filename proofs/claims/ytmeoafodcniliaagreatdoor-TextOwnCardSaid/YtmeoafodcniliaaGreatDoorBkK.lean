/- the kinds of the book; the book in memory -/
import Derived.Test.YtmeoafodcniliaaGreatDoorBkA
namespace Go.Proofs.YtmeoafodcniliaaGreatDoor
open Go.RowKit
set_option linter.unusedSimpArgs false
set_option linter.unusedVariables false
namespace Bk
/-- The type of a kind's elements. -/
def eT : Nat → TypeId
  | 0 => 5 | 1 => 3 | 2 => 4 | 3 => 9 | 4 => 116 | 5 => 22 | 6 => 84 | 7 => 127 | 8 => 130
  | 9 => 217 | 10 => 220 | 11 => 223 | 12 => 226 | 13 => 74 | 14 => 230 | 15 => 233 | _ => 236
/-- The type of a kind's lists. -/
def sT : Nat → TypeId
  | 0 => 22 | 1 => 84 | 2 => 109 | 3 => 192 | 4 => 110 | 5 => 26 | 6 => 27 | 7 => 23 | 8 => 54
  | 9 => 196 | 10 => 198 | 11 => 200 | 12 => 202 | 13 => 71 | 14 => 205 | 15 => 207 | _ => 209
/-- How many cells an element has. -/
def sz : Nat → Nat
  | 7 => 2 | 8 => 3 | 13 => 2 | _ => 1
def mk (K : Nat) (p id : Int) (j : Nat) : List Value := (mkV K p id j).cells.toList
def marks (K : Nat) (p id : Int) (n : Nat) : List Value := (List.range n).flatMap (mk K p id)
theorem marks_zero (K : Nat) (p id : Int) : marks K p id 0 = [] := rfl
theorem marks_succ (K : Nat) (p id : Int) (n : Nat) : marks K p id (n + 1) = marks K p id n ++ mk K p id n := by
  unfold marks; rw [List.range_succ, List.flatMap_append]; simp
theorem mk_length (K : Nat) (p id : Int) (j : Nat) : (mk K p id j).length = sz K := by
  unfold mk
  match K with
  | 0 | 1 | 4 | 7 | 8 | 13 => rfl
  | 2 | 3 | 5 | 6 | 9 | 10 | 11 | 12 | (n + 14) => rfl
theorem marks_length (K : Nat) (p id : Int) (n : Nat) : (marks K p id n).length = n * sz K := by
  induction n with
  | zero => simp [marks]
  | succ n ih => rw [marks_succ, List.length_append, ih, mk_length, Nat.succ_mul]
theorem marks_get (K : Nat) (p id : Int) (n j c : Nat) (hj : j < n) (hc : c < sz K) : (marks K p id n)[j * sz K + c]? = (mk K p id j)[c]? := by
  induction n with
  | zero => omega
  | succ n ih =>
    rw [marks_succ]
    have hl := marks_length K p id n
    by_cases h : j < n
    · rw [List.getElem?_append_left (by
        rw [hl]
        have : (j + 1) * sz K ≤ n * sz K := Nat.mul_le_mul_right _ h
        rw [Nat.succ_mul] at this; omega)]
      exact ih h
    · obtain rfl : j = n := by omega
      rw [List.getElem?_append_right (by rw [hl]; omega), hl]
      congr 1; omega
theorem marks_take (K : Nat) (p id : Int) (n j : Nat) (hj : j ≤ n) : (marks K p id n).take (j * sz K) = marks K p id j := by
  induction n with
  | zero => obtain rfl : j = 0 := by omega
            simp [marks]
  | succ n ih =>
    rw [marks_succ]
    have hl := marks_length K p id n
    rcases Nat.lt_or_ge j (n + 1) with h | h
    · rw [List.take_append_of_le_length (by rw [hl]; exact Nat.mul_le_mul_right _ (by omega))]
      exact ih (by omega)
    · obtain rfl : j = n + 1 := by omega
      rw [← marks_succ, List.take_of_length_le (by rw [marks_length]; exact Nat.le_refl _)]
/-- A row of one-cell elements, the next mark laid. -/
theorem take_set1 {K : Nat} (hs : sz K = 1) {p id : Int} {xs : List Value} {j : Nat} {u : Value} (h : xs.take (j * sz K) = marks K p id j) (hj : j < xs.length) (hu : mk K p id j = [u]) :
    (xs.set j u).take ((j + 1) * sz K) = marks K p id (j + 1) := by
  rw [marks_succ, ← h, hs, Nat.mul_one, Nat.mul_one, hu, List.take_set]
  apply List.ext_getElem?
  intro k
  rw [List.getElem?_set, List.length_take]
  by_cases hk : j = k
  · subst hk
    rw [if_pos rfl, if_pos (by omega), List.getElem?_append_right (by rw [List.length_take]; omega), List.length_take, show j - min j xs.length = 0 by omega]
    rfl
  · rw [if_neg hk]
    rcases Nat.lt_or_ge k j with h1 | h1
    · rw [List.getElem?_append_left (by rw [List.length_take]; omega), List.getElem?_take, List.getElem?_take, if_pos (by omega), if_pos h1]
    · rw [List.getElem?_append_right (by rw [List.length_take]; omega), List.getElem?_take, if_neg (by omega), List.length_take]
      symm; apply List.getElem?_eq_none
      simp; omega
/-- The book's own block: its base, its pass. -/
def BkC (w : World) (kb : Nat) (b p : Int) : Prop := ∃ cs, w.heap[kb]? = some (.cells cs 44 (0, 0)) ∧ cs.size = 53 ∧ cs[0]? = some (.int .i64 b) ∧ cs[1]? = some (.int .i64 p)
section
variable {w w' : World} {kb : Nat} {b p : Int} {F : Nat → Prop}
theorem BkC.kept (h : BkC w kb b p) (hk : Kept F w w') (hn : ¬ F kb) : BkC w' kb b p := by
  obtain ⟨cs, h1, h2⟩ := h
  exact ⟨cs, (hk.block kb (lt_heap h1) hn).trans h1, h2⟩
theorem BkC.below (h : BkC w kb b p) (hk : Below w.heap.size w w') : BkC w' kb b p := h.kept (F := fun _ => False) (Kept.of_below hk) (fun h => h)
theorem BkC.lt (h : BkC w kb b p) : kb < w.heap.size := by obtain ⟨cs, h1, _⟩ := h; exact lt_heap h1
theorem BkC.c0 (h : BkC w kb b p) : w.cell? ⟨kb, 0, none⟩ = some (.int .i64 b) := by obtain ⟨cs, h1, _, h3, _⟩ := h; rw [cell_heap h1]; exact h3
theorem BkC.c1 (h : BkC w kb b p) : w.cell? ⟨kb, 1, none⟩ = some (.int .i64 p) := by obtain ⟨cs, h1, _, _, h3⟩ := h; rw [cell_heap h1]; exact h3
theorem BkC.fz (h : BkC w kb b p) (o : Nat) : w.frozen? ⟨kb, o, none⟩ = false := by obtain ⟨cs, h1, _⟩ := h; exact frozen_heap h1 o
theorem BkC.not (h : BkC w kb b p) {base s n : Nat} {t : TypeId} {v : Value} {xs : List Value} (ho : w.ownsRow base t s v n xs) (ht : t ≠ 44) : v.ownBlock ≠ some kb := by
  obtain ⟨cs, h1, _⟩ := h
  exact own_not_cells ho h1 ht
end
theorem eT_book (K : Nat) : eT K ≠ 44 := by
  unfold eT; split <;> decide
theorem sT_book (K : Nat) : sT K ≠ 44 := by
  unfold sT; split <;> decide
/-- The lists of a kind in memory: those that are kept, those that were grown. -/
structure KS (w : World) (kb K : Nat) (vs gs : List Value) (hv hg : Value) : Prop where
  cv : w.cell? ⟨kb, 2 + 3 * K, none⟩ = some hv
  cg : w.cell? ⟨kb, 4 + 3 * K, none⟩ = some hg
  ov : w.ownsRow 0 (sT K) 1 hv vs.length vs
  og : w.ownsRow 0 (sT K) 1 hg gs.length gs
  sep : Sep hv hg
/-- The kept lists' own rows. -/
def Rows (w : World) (K : Nat) (vs : List Value) (P : Nat → Nat → List Value → Prop) : Prop :=
  ∀ i v, vs[i]? = some v → ∃ n xs, n ≤ 1099511627776 ∧ w.ownsRow 0 (eT K) (sz K) v n xs ∧ P i n xs
def Apart (vs : List Value) : Prop := ∀ (i j : Nat) (u v : Value), i ≠ j → vs[i]? = some u → vs[j]? = some v → Sep u v
/-- The blocks of these rows. -/
def InB (vs : List Value) (g : Nat) : Prop := ∃ v ∈ vs, v.ownBlock = some g
section
variable {w w' : World} {kb K : Nat} {vs gs : List Value} {hv hg : Value} {F : Nat → Prop} {P Q : Nat → Nat → List Value → Prop}
theorem KS.kept (h : KS w kb K vs gs hv hg) {b p : Int} (hb : BkC w kb b p) (hk : Kept F w w') (hn : ¬ F kb) (h1 : ∀ g, hv.ownBlock = some g → ¬ F g) (h2 : ∀ g, hg.ownBlock = some g → ¬ F g) : KS w' kb K vs gs hv hg :=
  ⟨(hk.cell hb.lt hn).trans h.cv, (hk.cell hb.lt hn).trans h.cg, own_kept h.ov hk h1, own_kept h.og hk h2, h.sep⟩
theorem KS.below (h : KS w kb K vs gs hv hg) {b p : Int} (hb : BkC w kb b p) (hk : Below w.heap.size w w') : KS w' kb K vs gs hv hg :=
  h.kept (F := fun _ => False) hb (Kept.of_below hk) (fun h => h) (fun _ _ h => h) (fun _ _ h => h)
theorem Rows.kept (h : Rows w K vs P) (hk : Kept F w w') (hn : ∀ v ∈ vs, ∀ g, v.ownBlock = some g → ¬ F g) : Rows w' K vs P := fun i v hv => by
  obtain ⟨n, xs, h1, h2, h3⟩ := h i v hv
  exact ⟨n, xs, h1, own_kept h2 hk (hn v (List.mem_of_getElem? hv)), h3⟩
theorem Rows.below (h : Rows w K vs P) (hk : Below w.heap.size w w') : Rows w' K vs P := h.kept (F := fun _ => False) (Kept.of_below hk) (fun _ _ _ _ h => h)
theorem Rows.weak (h : Rows w K vs P) (hp : ∀ i n xs, P i n xs → Q i n xs) : Rows w K vs Q := fun i v hv => by
  obtain ⟨n, xs, h1, h2, h3⟩ := h i v hv
  exact ⟨n, xs, h1, h2, hp i n xs h3⟩
/-- The rows of a kind lie in no block of another type. -/
theorem Rows.not (h : Rows w K vs P) {base s n : Nat} {t : TypeId} {v : Value} {xs : List Value} (ho : w.ownsRow base t s v n xs) (ht : t ≠ eT K) {g : Nat} (hg : v.ownBlock = some g) : ¬ InB vs g := by
  rintro ⟨u, hu, he⟩
  obtain ⟨i, hi⟩ := List.mem_iff_getElem?.1 hu
  obtain ⟨m, ys, _, h2, _⟩ := h i u hi
  exact own_apart ho h2 ht hg he
theorem Rows.notB (h : Rows w K vs P) {b p : Int} (hb : BkC w kb b p) : ¬ InB vs kb := by
  rintro ⟨u, hu, he⟩
  obtain ⟨i, hi⟩ := List.mem_iff_getElem?.1 hu
  obtain ⟨m, ys, _, h2, _⟩ := h i u hi
  exact hb.not h2 (eT_book K) he
end
/-- These lists show the marks of their numbers. -/
def Shows (w : World) (K : Nat) (p id : Int) (vs : List Value) : Prop :=
  ∀ (i : Nat) (v : Value), vs[i]? = some v → ∃ n, n ≤ 2199023255552 ∧ ∃ A c, v = .slice A n c ∧ n ≤ c ∧ c ≤ maxLen ∧ Rd w w.heap.size A (marks K p (id + (i : Int) + 1) n)
/-- These cells may be written. -/
def CanPut (w : World) (g o n : Nat) : Prop := g < w.heap.size ∧ ∀ j, j < n → (w.cell? ⟨g, o + j, none⟩).isSome = true ∧ w.frozen? ⟨g, o + j, none⟩ = false
theorem run_put {P : Program} {w : World} {g o : Nat} {vs : List Value} (h : CanPut w g o vs.length) (h1 : ∀ v ∈ vs, v.oneCell' = true) : (storeCells ⟨g, o, none⟩ vs).run P w = .ok () (w.setCells g o vs) :=
  run_storeCells_cells g o vs 0 w (fun j hj => by have := (h.2 j hj).1; simpa using this) (fun j hj => by have := (h.2 j hj).2; simpa using this) h1
theorem Kept.puts (g : Nat) : ∀ (vs : List Value) (o : Nat) (w : World), Kept (fun k => k = g) w (w.setCells g o vs)
  | [], _, w => Kept.refl _ w
  | v :: r, o, w => (Kept.set w g o v).trans (Kept.puts g r (o + 1) _) (fun _ h => Or.inl h)
theorem isSome_set (w : World) (a : Addr) (g o : Nat) (u : Value) (h : (w.cell? a).isSome = true) : ((w.setCell ⟨g, o, none⟩ u).cell? a).isSome = true := by
  by_cases ha : a = ⟨g, o, none⟩
  · subst ha
    obtain ⟨x, hx⟩ := Option.isSome_iff_exists.1 h
    rw [World.cell?_setCell_same _ _ _ hx]; rfl
  · rw [World.cell?_setCell_other _ _ _ _ (Ne.symm ha)]; exact h
theorem isSome_puts (g : Nat) (a : Addr) : ∀ (vs : List Value) (o : Nat) (w : World), (w.cell? a).isSome = true → ((w.setCells g o vs).cell? a).isSome = true
  | [], _, _, h => h
  | v :: r, o, w, h => isSome_puts g a r (o + 1) _ (isSome_set w a g o v h)
theorem CanPut.puts {w : World} {g o n : Nat} (h : CanPut w g o n) {g' o' : Nat} {vs : List Value} : CanPut (w.setCells g' o' vs) g o n :=
  ⟨Nat.lt_of_lt_of_le h.1 (Kept.puts g' vs o' w).size, fun j hj => ⟨isSome_puts _ _ _ _ _ (h.2 j hj).1, by rw [World.frozen?_setCells]; exact (h.2 j hj).2⟩⟩
theorem CanPut.below {w w' : World} {g o n : Nat} (h : CanPut w g o n) (hb : Below w.heap.size w w') : CanPut w' g o n :=
  ⟨Nat.lt_of_lt_of_le h.1 hb.size, fun j hj => ⟨by rw [hb.cell (p := ⟨g, o + j, none⟩) h.1]; exact (h.2 j hj).1, (hb.frozen (p := ⟨g, o + j, none⟩) h.1).trans (h.2 j hj).2⟩⟩
theorem run_put1 {P : Program} {w : World} {g o n c : Nat} {u : Value} (h : CanPut w g o n) (hc : c < n) (h1 : u.oneCell' = true) : (store ⟨g, o + c, none⟩ u).run P w = .ok () (w.setCell ⟨g, o + c, none⟩ u) := by
  obtain ⟨x, hx⟩ := Option.isSome_iff_exists.1 (h.2 c hc).1
  rw [run_store P w _ u _ h1]
  simp [hx, (h.2 c hc).2]
theorem CanPut.set {w : World} {g o n : Nat} (h : CanPut w g o n) {g' o' : Nat} {u : Value} : CanPut (w.setCell ⟨g', o', none⟩ u) g o n := h.puts (vs := [u])
theorem own_canPut {w : World} {base s n : Nat} {t : TypeId} {xs : List Value} {g m cap o k : Nat} (h : w.ownsRow base t s (.slice (some ⟨g, 0, none⟩) m cap) n xs) (hk : o + k ≤ xs.length) : CanPut w g o k :=
  ⟨(own_blk h rfl).2, fun j hj => ⟨by rw [own_cell h (List.getElem?_eq_getElem (by omega))]; rfl, own_frozen h _⟩⟩
theorem own_puts {base s n : Nat} {t : TypeId} {g m cap : Nat} : ∀ (vs : List Value) (o : Nat) (xs : List Value) (w : World), w.ownsRow base t s (.slice (some ⟨g, 0, none⟩) m cap) n xs → o + vs.length ≤ xs.length →
    ∃ ys, (w.setCells g o vs).ownsRow base t s (.slice (some ⟨g, 0, none⟩) m cap) n ys ∧ ys.take (o + vs.length) = xs.take o ++ vs
  | [], o, xs, w, h, _ => ⟨xs, h, by simp⟩
  | v :: r, o, xs, w, h, hl => by
    rw [List.length_cons] at hl
    obtain ⟨ys, h1, h2⟩ := own_puts r (o + 1) (xs.set o v) _ (own_set h (by omega) v) (by rw [List.length_set]; omega)
    refine ⟨ys, h1, ?_⟩
    rw [List.length_cons, show o + (r.length + 1) = o + 1 + r.length by omega, h2]
    have : (xs.set o v).take (o + 1) = xs.take o ++ [v] := by
      rw [List.take_add_one, List.take_set_of_le (Nat.le_refl o), List.getElem?_set_self (by omega)]
      rfl
    rw [this]; simp
section
variable {w0 w w' : World} {kb kf hb ho g go n : Nat} {v1 v2 : Value}
theorem ws_drew (h : (w.cell? ⟨kb, kf, none⟩ = some v1 ∧ w.cell? ⟨hb, ho, none⟩ = some v2 ∧ CanPut w g go n) ∧ (kb ≠ g ∧ hb ≠ g) ∧ Kept (fun k => k = g) w0 w) :
    (w.drew.cell? ⟨kb, kf, none⟩ = some v1 ∧ w.drew.cell? ⟨hb, ho, none⟩ = some v2 ∧ CanPut w.drew g go n) ∧ (kb ≠ g ∧ hb ≠ g) ∧ Kept (fun k => k = g) w0 w.drew :=
  ⟨h.1, h.2.1, h.2.2.trans (Kept.drewN (fun _ => False) w 1) (fun _ h => h.elim)⟩
theorem ws_below (h : (w.cell? ⟨kb, kf, none⟩ = some v1 ∧ w.cell? ⟨hb, ho, none⟩ = some v2 ∧ CanPut w g go n) ∧ (kb ≠ g ∧ hb ≠ g) ∧ Kept (fun k => k = g) w0 w) (hb' : Below w.heap.size w w') :
    (w'.cell? ⟨kb, kf, none⟩ = some v1 ∧ w'.cell? ⟨hb, ho, none⟩ = some v2 ∧ CanPut w' g go n) ∧ (kb ≠ g ∧ hb ≠ g) ∧ Kept (fun k => k = g) w0 w' :=
  ⟨⟨(hb'.cell (p := ⟨kb, kf, none⟩) (cell_lt h.1.1)).trans h.1.1, (hb'.cell (p := ⟨hb, ho, none⟩) (cell_lt h.1.2.1)).trans h.1.2.1, h.1.2.2.below hb'⟩, h.2.1, h.2.2.trans (Kept.of_below (F := fun _ => False) hb') (fun _ h => h.elim)⟩
theorem ws_set (h : (w.cell? ⟨kb, kf, none⟩ = some v1 ∧ w.cell? ⟨hb, ho, none⟩ = some v2 ∧ CanPut w g go n) ∧ (kb ≠ g ∧ hb ≠ g) ∧ Kept (fun k => k = g) w0 w) {o : Nat} {u : Value} :
    ((w.setCell ⟨g, o, none⟩ u).cell? ⟨kb, kf, none⟩ = some v1 ∧ (w.setCell ⟨g, o, none⟩ u).cell? ⟨hb, ho, none⟩ = some v2 ∧ CanPut (w.setCell ⟨g, o, none⟩ u) g go n) ∧ (kb ≠ g ∧ hb ≠ g) ∧ Kept (fun k => k = g) w0 (w.setCell ⟨g, o, none⟩ u) :=
  ⟨⟨((Kept.set w g o u).cell (cell_lt h.1.1) h.2.1.1).trans h.1.1, ((Kept.set w g o u).cell (cell_lt h.1.2.1) h.2.1.2).trans h.1.2.1, h.1.2.2.set⟩, h.2.1, h.2.2.trans (Kept.set w g o u) (fun _ h => Or.inl h)⟩
theorem ws_puts (h : (w.cell? ⟨kb, kf, none⟩ = some v1 ∧ w.cell? ⟨hb, ho, none⟩ = some v2 ∧ CanPut w g go n) ∧ (kb ≠ g ∧ hb ≠ g) ∧ Kept (fun k => k = g) w0 w) {o : Nat} {us : List Value} :
    ((w.setCells g o us).cell? ⟨kb, kf, none⟩ = some v1 ∧ (w.setCells g o us).cell? ⟨hb, ho, none⟩ = some v2 ∧ CanPut (w.setCells g o us) g go n) ∧ (kb ≠ g ∧ hb ≠ g) ∧ Kept (fun k => k = g) w0 (w.setCells g o us) :=
  ⟨⟨((Kept.puts g us o w).cell (cell_lt h.1.1) h.2.1.1).trans h.1.1, ((Kept.puts g us o w).cell (cell_lt h.1.2.1) h.2.1.2).trans h.1.2.1, h.1.2.2.puts⟩, h.2.1, h.2.2.trans (Kept.puts g us o w) (fun _ h => Or.inl h)⟩
end
/-- One element's store, told of the row. -/
theorem put_next {K : Nat} {p id : Int} {w : World} {g m cap n j : Nat} {ys us : List Value} (h : w.ownsRow 0 (eT K) (sz K) (.slice (some ⟨g, 0, none⟩) m cap) n ys) (hj : j < n) (ht : ys.take (j * sz K) = marks K p id j) (hu : mk K p id j = us) {o : Nat} (ho : o = j * sz K) :
    ∃ zs, (w.setCells g o us).ownsRow 0 (eT K) (sz K) (.slice (some ⟨g, 0, none⟩) m cap) n zs ∧ zs.take ((j + 1) * sz K) = marks K p id (j + 1) := by
  subst hu; subst ho
  have hl : (j + 1) * sz K ≤ n * sz K := Nat.mul_le_mul_right _ hj
  rw [Nat.succ_mul] at hl
  obtain ⟨zs, h1, h2⟩ := own_puts (mk K p id j) (j * sz K) ys w h (by rw [mk_length, h.1]; exact hl)
  refine ⟨zs, h1, ?_⟩
  rw [mk_length] at h2
  rw [Nat.succ_mul, h2, ht, marks_succ]
theorem marks_full {K : Nat} {p id : Int} {w : World} {v : Value} {n : Nat} {ys : List Value} (h : w.ownsRow 0 (eT K) (sz K) v n ys) (ht : ys.take (n * sz K) = marks K p id n) : ys = marks K p id n := by
  rw [← ht, List.take_of_length_le (by rw [h.1]; exact Nat.le_refl _)]
/-- A row of the kind written, the others as they were. -/
theorem Rows.next {w w' : World} {K i : Nat} {vs : List Value} {p id : Int} (h : Rows w K vs (fun k n xs => k < i → xs = marks K p (id + (k : Int) + 1) n)) (ha : Apart vs) {v : Value} (hv : vs[i]? = some v) {n : Nat} {ys : List Value} (hn : n ≤ 1099511627776)
    (ho : w'.ownsRow 0 (eT K) (sz K) v n ys) (hy : ys = marks K p (id + (i : Int) + 1) n) (hk : Kept (fun g => v.ownBlock = some g) w w') : Rows w' K vs (fun k n xs => k < i + 1 → xs = marks K p (id + (k : Int) + 1) n) := by
  intro k u hu
  by_cases hki : k = i
  · subst hki
    rw [hv] at hu; injection hu with hu; subst hu
    exact ⟨n, ys, hn, ho, fun _ => hy⟩
  · obtain ⟨m, zs, h1, h2, h3⟩ := h k u hu
    exact ⟨m, zs, h1, own_kept h2 hk (fun g hg he => ha k i u v hki hu hv g hg he), fun hlt => h3 (by omega)⟩
theorem sT_eT (K : Nat) : sT K ≠ eT K := by
  unfold sT eT; split <;> decide
end Bk
end Go.Proofs.YtmeoafodcniliaaGreatDoor
