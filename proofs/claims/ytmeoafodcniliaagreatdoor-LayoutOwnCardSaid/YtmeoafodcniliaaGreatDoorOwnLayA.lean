/- LayoutOwn: what the walk holds -/
import Derived.Test.YtmeoafodcniliaaGreatDoorC10
import Derived.Test.YtmeoafodcniliaaGreatDoorBkL
import Derived.Test.YtmeoafodcniliaaGreatDoorBk1
import Derived.Test.YtmeoafodcniliaaGreatDoorBkE
namespace Go.Proofs.YtmeoafodcniliaaGreatDoor
open Go.ChangeShapes Go.WideShapes Go.ChangeAt Go.RowKit
open Bk (Row Is Sep Kept)
set_option linter.unusedSimpArgs false
set_option linter.unusedVariables false
set_option maxRecDepth 20000
namespace Bk
def usedL : Nat → Bool := only [1]
theorem usedL_ok : UsedOK usedL := by intro K hK; revert K; decide
theorem allL : All usedL := by
  intro K hK
  match K, hK with
  | 0, _ => exact empty0.mono (fun l h => h.resolve_left (by decide))
  | 1, _ => exact kind1.mono (fun _ _ => trivial)
  | 2, _ => exact empty2.mono (fun l h => h.resolve_left (by decide))
  | 3, _ => exact empty3.mono (fun l h => h.resolve_left (by decide))
  | 4, _ => exact empty4.mono (fun l h => h.resolve_left (by decide))
  | 5, _ => exact empty5.mono (fun l h => h.resolve_left (by decide))
  | 6, _ => exact empty6.mono (fun l h => h.resolve_left (by decide))
  | 7, _ => exact empty7.mono (fun l h => h.resolve_left (by decide))
  | 8, _ => exact empty8.mono (fun l h => h.resolve_left (by decide))
  | 9, _ => exact empty9.mono (fun l h => h.resolve_left (by decide))
  | 10, _ => exact empty10.mono (fun l h => h.resolve_left (by decide))
  | 11, _ => exact empty11.mono (fun l h => h.resolve_left (by decide))
  | 12, _ => exact empty12.mono (fun l h => h.resolve_left (by decide))
  | 13, _ => exact empty13.mono (fun l h => h.resolve_left (by decide))
  | 14, _ => exact empty14.mono (fun l h => h.resolve_left (by decide))
  | 15, _ => exact empty15.mono (fun l h => h.resolve_left (by decide))
  | 16, _ => exact empty16.mono (fun l h => h.resolve_left (by decide))
  | K + 17, h => omega
theorem own_none {w : World} {base t s n m cap : Nat} {A : Option Addr} {xs : List Value} (h : w.ownsRow base t s (.slice A m cap) n xs) : A = none → m = 0 ∧ cap = 0 := by
  rintro rfl
  rcases h.2 with ⟨h2, _⟩ | ⟨g, cap', cur, h2, _⟩
  · injection h2 with _ h1 h2; exact ⟨h1, h2⟩
  · injection h2 with h1; cases h1
end Bk
/-- A layout of one's own that the book does not know, or none: its row lies between B0 and B1. -/
def LayS (U : Nat → Prop) (w : World) (B0 B1 : Nat) (p : Option Addr) (zs : List Int) : Prop :=
  p = none ∨ ∃ base g A n cap N, p = some ⟨g, 0, none⟩ ∧ LayIs w base g A n cap zs ∧ La.Good N zs ∧ B0 ≤ base ∧ ¬ U g ∧ ∀ x, (Value.slice A n cap).ownBlock = some x → x < B1 ∧ ¬ U x
section
variable {U F : Nat → Prop} {w w' : World} {base g n cap B0 B1 n2 base2 : Nat} {A : Option Addr} {p : Option Addr} {zs : List Int} {l : Value} {ys : List Value}
theorem LayIs.keptK (h : LayIs w base g A n cap zs) (hk : Kept F w w') (hg : ¬ F g) (hA : ∀ x, (Value.slice A n cap).ownBlock = some x → ¬ F x) : LayIs w' base g A n cap zs :=
  ⟨(hk.block g (lt_heap h.1) hg).trans h.1, Bk.own_kept h.2.1 hk hA, h.2.2⟩
theorem LayS.below (h : LayS U w B0 B1 p zs) (hb : Below w.heap.size w w') : LayS U w' B0 B1 p zs := by
  rcases h with h | ⟨base, g, A, n, cap, N, h1, h2, h3⟩
  · exact .inl h
  · exact .inr ⟨base, g, A, n, cap, N, h1, h2.below hb, h3⟩
theorem LayS.more {B2 : Nat} (h : LayS U w B0 B1 p zs) (hb : B1 ≤ B2) : LayS U w B0 B2 p zs := by
  rcases h with h | ⟨base, g, A, n, cap, N, h1, h2, h3, h4, h5, h6⟩
  · exact .inl h
  · exact .inr ⟨base, g, A, n, cap, N, h1, h2, h3, h4, h5, fun x hx => ⟨Nat.lt_of_lt_of_le (h6 x hx).1 hb, (h6 x hx).2⟩⟩
theorem LayS.finish (h : LayS U w B0 B1 p zs) (hk : Kept U w w') : LayS U w' B0 B1 p zs := by
  rcases h with h | ⟨base, g, A, n, cap, N, h1, h2, h3, h4, h5, h6⟩
  · exact .inl h
  · exact .inr ⟨base, g, A, n, cap, N, h1, h2.keptK hk h5 (fun x hx => (h6 x hx).2), h3, h4, h5, h6⟩
/-- Another row of one's own grows. -/
theorem LayS.kept (h : LayS U w B0 B1 p zs) (hk : Kept F w w') (ho : ∀ x, F x → ∃ t cs fr, t ≠ 3 ∧ t ≠ 162 ∧ w.heap[x]? = some (.cells cs t fr)) : LayS U w' B0 B1 p zs := by
  rcases h with h | ⟨base, g, A, n, cap, N, h1, h2, h3, h4, h5, h6⟩
  · exact .inl h
  · refine .inr ⟨base, g, A, n, cap, N, h1, h2.keptK hk (fun hx => ?_) (fun x hx hF => ?_), h3, h4, h5, h6⟩
    · obtain ⟨t, cs, fr, a, b, c⟩ := ho g hx
      rw [h2.1] at c; injection c with c; injection c with _ c; exact b c.symm
    · obtain ⟨t, cs, fr, a, b, c⟩ := ho x hF
      exact Bk.own_not_cells h2.2.1 c (Ne.symm a) hx
/-- Keeping a list that is no layout's. -/
theorem LayS.keep (h : LayS U w B0 B1 p zs) (hk : Kept U w w') (ho : w.ownsRow base2 3 1 l n2 ys) (hs : ∀ x, l.ownBlock = some x → x < B0 ∨ B1 ≤ x) : LayS (Bk.more U w w' l) w' B0 B1 p zs := by
  rcases h with h | ⟨base, g, A, n, cap, N, h1, h2, h3, h4, h5, h6⟩
  · exact .inl h
  · refine .inr ⟨base, g, A, n, cap, N, h1, h2.keptK hk h5 (fun x hx => (h6 x hx).2), h3, h4, fun hx => ?_, fun x hx => ⟨(h6 x hx).1, fun hm => ?_⟩⟩
    · rcases hx with hx | hx | hx
      · exact h5 hx
      · exact Bk.own_not_cells ho h2.1 (by decide) hx
      · have := lt_heap h2.1; omega
    · have hb := Bk.own_blk h2.2.1 hx
      rcases hm with hm | hm | hm
      · exact (h6 x hx).2 hm
      · have h7 := hs x hm; have h8 := (h6 x hx).1; omega
      · omega
theorem LayS.made {N : Int} {A' : Option Addr} {cap' : Nat} (h : LayIs w' w.heap.size g A n cap zs) (hg : La.Good N zs) (hB : B0 ≤ w.heap.size) (hU : ∀ g, U g → g < w.heap.size) : LayS U w' B0 w'.heap.size (some ⟨g, 0, none⟩) zs :=
  .inr ⟨_, g, A, n, cap, N, rfl, h, hg, hB, fun hx => by have := hU g hx; have := h.2.2.2; omega, fun x hx => ⟨(Bk.own_blk h.2.1 hx).2, fun hm => by have := hU x hm; have := (Bk.own_blk h.2.1 hx).1; omega⟩⟩
end
theorem new_lay {U : Nat → Prop} {w w' : World} {B0 k : Nat} {N : Int} {zs : List Int} {e : Ending} (h : NewAns w N k zs e w') (hB : B0 ≤ w.heap.size) (hU : ∀ g, U g → g < w.heap.size) : Below w.heap.size w w' ∧ ∃ p ev, e = .returned (.tuple #[.pointer p, .int .i64 ev]) ∧ LayS U w' B0 w'.heap.size p zs := by
  refine ⟨h.1, ?_⟩
  rcases h.2 with ⟨h0, g, A', cap', rfl, hl⟩ | ⟨h0, rfl⟩
  · exact ⟨_, _, rfl, LayS.made (A' := none) (cap' := 0) hl (La.good_new h0) hB hU⟩
  · exact ⟨_, _, rfl, .inl rfl⟩
theorem even_lay {U : Nat → Prop} {w w' : World} {B0 : Nat} {N s : Int} {e : Ending} (h : EvenAns w N s e w') (hB : B0 ≤ w.heap.size) (hU : ∀ g, U g → g < w.heap.size) : Below w.heap.size w w' ∧ ∃ p ev, e = .returned (.tuple #[.pointer p, .int .i64 ev]) ∧ LayS U w' B0 w'.heap.size p (La.evenL N s s.toNat) := by
  refine ⟨h.1, ?_⟩
  rcases h.2 with ⟨h0, g, A', cap', rfl, hl⟩ | ⟨h0, rfl⟩
  · exact ⟨_, _, rfl, LayS.made (A' := none) (cap' := 0) hl (La.good_even h0) hB hU⟩
  · exact ⟨_, _, rfl, .inl rfl⟩
theorem bal_lay {U : Nat → Prop} {w w' : World} {B0 : Nat} {ds : List Int} {s : Int} {e : Ending} (h : BalAns w ds s e w') (hB : B0 ≤ w.heap.size) (hU : ∀ g, U g → g < w.heap.size) : Below w.heap.size w w' ∧ ∃ p ev, e = .returned (.tuple #[.pointer p, .int .i64 ev]) ∧ LayS U w' B0 w'.heap.size p (La.balL ds s.toNat s.toNat) := by
  refine ⟨h.1, ?_⟩
  rcases h.2 with ⟨h0, g, A', cap', rfl, hl⟩ | ⟨h0, rfl⟩
  · exact ⟨_, _, rfl, LayS.made (A' := none) (cap' := 0) hl (La.good_bal h0) hB hU⟩
  · exact ⟨_, _, rfl, .inl rfl⟩
/-- The row noted for a layout. -/
def WasS (U : Nat → Prop) (w : World) (B0 : Nat) (p : Option Addr) (v : Value) (zs : List Int) : Prop := p = none ∨ (Row U w 3 1 v zs.length (zs.map VI) ∧ ∀ x, v.ownBlock = some x → B0 ≤ x)
theorem infoIL : (Tryz.prog.info? 84).map (fun i => (i.zero, i.size, i.bytes)) = some (some (.slice none 0 0), 1, 24) := by kernel_rfl
theorem descIL : Tryz.prog.underlying 27 = some (.slice 84) := by kernel_rfl
/-- What the walk holds between two keepings. -/
structure LSt (w0 : World) (kb ga B0 B1 n1 n2 n4 : Nat) (P : Nat → Option Addr) (Z : Nat → List Int) (m l a : Value) (z1 z2 z4 : List Int) (rv : Value) (i : Nat) (WR : List Value) (N : Nat) (U : Nat → Prop) (w : World) : Prop where
  is : Is Bk.usedL w kb U N
  was : Row U w 84 1 rv i WR
  all : w.heap[ga]? = some (.cells #[.pointer (P 0), .pointer (P 1), .pointer (P 2)] 101 (0, 0))
  ga : ¬ U ga
  lay : ∀ j, j < 3 → LayS U w B0 B1 (P j) (Z j)
  had : ∀ j, j < i → ∃ v, WR[j]? = some v ∧ WasS U w B0 (P j) v (Z j)
  r1 : Row U w 3 1 m n1 (z1.map VI)
  r2 : Row U w 3 1 l n2 (z2.map VI)
  r4 : Row U w 3 1 a n4 (z4.map VI)
  low : ∀ g, U g → w0.heap.size ≤ g
  bel : Below w0.heap.size w0 w
  b1 : B1 ≤ w.heap.size
  rvl : ∀ g, rv.ownBlock = some g → w0.heap.size ≤ g
section
variable {w0 w w' w'' : World} {kb ga B0 B1 n1 n2 n4 : Nat} {P : Nat → Option Addr} {Z : Nat → List Int} {m l a : Value} {z1 z2 z4 : List Int} {rv : Value} {i : Nat} {WR : List Value} {N : Nat} {U : Nat → Prop}
theorem Row.step {e s n e2 s2 n2 base : Nat} {v k : Value} {xs ys : List Value} (h : Row U w e s v n xs) (hb : Below w.heap.size w w') (ho : w'.ownsRow w.heap.size e2 s2 k n2 ys) (hK : Kept U w' w'') : Row (Bk.more U w' w'' k) w'' e s v n xs := (h.below hb).keep hK (Bk.sep_new h.1 ho)
theorem LSt.below (h : LSt w0 kb ga B0 B1 n1 n2 n4 P Z m l a z1 z2 z4 rv i WR N U w) (hb : Below w.heap.size w w') : LSt w0 kb ga B0 B1 n1 n2 n4 P Z m l a z1 z2 z4 rv i WR N U w' :=
  ⟨h.is.below hb, h.was.below hb, (hb.block ga (lt_heap h.all)).trans h.all, h.ga, fun j hj => (h.lay j hj).below hb,
    fun j hj => by
      obtain ⟨v, h1, h2⟩ := h.had j hj
      exact ⟨v, h1, h2.elim (fun h => .inl h) (fun h => .inr ⟨h.1.below hb, h.2⟩)⟩,
    h.r1.below hb, h.r2.below hb, h.r4.below hb, h.low, h.bel.trans (hb.mono h.bel.size), Nat.le_trans h.b1 hb.size, h.rvl⟩
/-- A fresh row of ints is kept. -/
theorem LSt.step {k : Value} {n : Nat} {ys : List Value} (h : LSt w0 kb ga B0 B1 n1 n2 n4 P Z m l a z1 z2 z4 rv i WR N U w) (hb : Below w.heap.size w w') (ho : w'.ownsRow w.heap.size 3 1 k n ys) (hI : Is Bk.usedL w'' kb (Bk.more U w' w'' k) (N + 1)) (hK : Kept U w' w'') :
    LSt w0 kb ga B0 B1 n1 n2 n4 P Z m l a z1 z2 z4 rv i WR (N + 1) (Bk.more U w' w'' k) w'' := by
  have h' := h.below hb
  have hlow : ∀ g, k.ownBlock = some g → w0.heap.size ≤ g := fun g hg => Nat.le_trans h.bel.size (Bk.own_blk ho hg).1
  refine ⟨hI, h'.was.keep hK (Bk.sep_type h'.was.1 ho (by decide)), (hK.block ga (lt_heap h'.all) h.ga).trans h'.all, fun hx => ?_, fun j hj => (h'.lay j hj).keep hK ho (fun x hx => .inr (Nat.le_trans h.b1 (Bk.own_blk ho hx).1)),
    fun j hj => ?_, Row.step (base := 0) h.r1 hb ho hK, Row.step (base := 0) h.r2 hb ho hK, Row.step (base := 0) h.r4 hb ho hK, Bk.more_low h.low hlow h'.bel.size, Bk.kept_low h'.bel hK h.low h'.bel.size, Nat.le_trans h'.b1 hK.size, h.rvl⟩
  · rcases hx with hx | hx | hx
    · exact h.ga hx
    · exact Bk.own_not_cells ho h'.all (by decide) hx
    · have := lt_heap h'.all; omega
  · obtain ⟨v, h1, h2⟩ := h.had j hj
    exact ⟨v, h1, h2.elim (fun h => .inl h) (fun h2 => .inr ⟨Row.step (base := 0) h2.1 hb ho hK, h2.2⟩)⟩
/-- The row of rows grows by one. -/
theorem LSt.grow {rv' : Value} {v : Value} (h : LSt w0 kb ga B0 B1 n1 n2 n4 P Z m l a z1 z2 z4 rv i WR N U w) (hown : w'.ownsRow 0 84 1 rv' (i + 1) (WR ++ [v])) (hK : Kept (fun g => rv.ownBlock = some g) w w') (hblk : ∀ g, rv'.ownBlock = some g → rv.ownBlock = some g ∨ w.heap.size ≤ g)
    (hv : WasS U w B0 (P i) v (Z i)) : LSt w0 kb ga B0 B1 n1 n2 n4 P Z m l a z1 z2 z4 rv' (i + 1) (WR ++ [v]) N U w' := by
  have hl : WR.length = i := by have := h.was.1.1; omega
  have hrow : ∀ {v : Value} {n : Nat} {xs : List Value}, Row U w 3 1 v n xs → Row U w' 3 1 v n xs := fun hr => hr.kept hK (fun g hg he => Bk.own_apart hr.1 h.was.1 (by decide) hg he)
  have hwas : ∀ {p : Option Addr} {v : Value} {z : List Int}, WasS U w B0 p v z → WasS U w' B0 p v z := fun hw => hw.elim (fun h => .inl h) (fun h => .inr ⟨hrow h.1, h.2⟩)
  refine ⟨h.is.kept hK (fun g hg he => h.was.2 g he hg), ⟨hown, fun g hg hx => ?_⟩, (hK.block ga (lt_heap h.all) (fun he => Bk.own_not_cells h.was.1 h.all (by decide) he)).trans h.all, h.ga, fun j hj => (h.lay j hj).kept hK (fun x hx => ?_), fun j hj => ?_, hrow h.r1, hrow h.r2, hrow h.r4, h.low,
    h.bel.trans (hK.below h.bel.size (fun g hg => h.rvl g hg)), Nat.le_trans h.b1 hK.size, fun g hg => (hblk g hg).elim (h.rvl g) (fun h1 => Nat.le_trans h.bel.size h1)⟩
  · exact (hblk g hg).elim (fun h1 => h.was.2 g h1 hx) (fun h1 => by have := h.is.ult g hx; omega)
  · rcases h.was.1.2 with ⟨e, _⟩ | ⟨g, cap, cur, e, _, h4, _⟩
    · rw [e] at hx; cases hx
    · rw [e] at hx; injection hx with hx
      have hx : g = x := hx
      subst hx
      exact ⟨84, cur, (0, 0), by decide, by decide, h4⟩
  · by_cases hji : j < i
    · obtain ⟨u, h1, h2⟩ := h.had j hji
      exact ⟨u, by rw [List.getElem?_append_left (by omega)]; exact h1, hwas h2⟩
    · obtain rfl : j = i := by omega
      exact ⟨v, by rw [List.getElem?_append_right (by omega), hl]; simp, hwas hv⟩
theorem LSt.weak {M : Nat} (h : LSt w0 kb ga B0 B1 n1 n2 n4 P Z m l a z1 z2 z4 rv i WR N U w) (hM : N ≤ M) : LSt w0 kb ga B0 B1 n1 n2 n4 P Z m l a z1 z2 z4 rv i WR M U w :=
  ⟨h.is.weak hM, h.was, h.all, h.ga, h.lay, h.had, h.r1, h.r2, h.r4, h.low, h.bel, h.b1, h.rvl⟩
/-- A layout that the book does not know. -/
def LayT (U : Nat → Prop) (w : World) (base g : Nat) (A : Option Addr) (n cap : Nat) (zs : List Int) : Prop := LayIs w base g A n cap zs ∧ ¬ U g ∧ ∀ x, (Value.slice A n cap).ownBlock = some x → ¬ U x
theorem LayT.below {base g n cap : Nat} {A : Option Addr} {zs : List Int} (h : LayT U w base g A n cap zs) (hb : Below w.heap.size w w') : LayT U w' base g A n cap zs := ⟨h.1.below hb, h.2⟩
theorem LayT.step {base g n cap k2 : Nat} {A : Option Addr} {zs : List Int} {k : Value} {ys : List Value} (h : LayT U w base g A n cap zs) (hb : Below w.heap.size w w') (ho : w'.ownsRow w.heap.size 3 1 k k2 ys) (hK : Kept U w' w'') : LayT (Bk.more U w' w'' k) w'' base g A n cap zs := by
  have h' := h.1.below hb
  refine ⟨h'.keptK hK h.2.1 h.2.2, fun hx => ?_, fun x hx hm => ?_⟩
  · rcases hx with hx | hx | hx
    · exact h.2.1 hx
    · exact Bk.own_not_cells ho h'.1 (by decide) hx
    · have := lt_heap h'.1; omega
  · have hb2 := (Bk.own_blk h.1.2.1 hx).2
    rcases hm with hm | hm | hm
    · exact h.2.2 x hx hm
    · have := (Bk.own_blk ho hm).1; omega
    · have := hb.size; omega
theorem ofL_le (zs vs : List Int) : (La.ofL zs vs).length ≤ zs.length := by
  unfold La.ofL
  rw [List.length_map]
  refine Nat.le_trans (List.length_filter_le _ _) ?_
  simp
/-- What is held once the lists handed in are being kept. -/
structure LEnd (w0 : World) (kb ga B0 B1 : Nat) (P : Nat → Option Addr) (Z : Nat → List Int) (rv : Value) (i : Nat) (WR : List Value) (N : Nat) (U : Nat → Prop) (w : World) : Prop where
  is : Is Bk.usedL w kb U N
  was : Row U w 84 1 rv i WR
  all : w.heap[ga]? = some (.cells #[.pointer (P 0), .pointer (P 1), .pointer (P 2)] 101 (0, 0))
  ga : ¬ U ga
  lay : ∀ j, j < 3 → LayS U w B0 B1 (P j) (Z j)
  had : ∀ j, j < i → ∃ v, WR[j]? = some v ∧ WasS U w B0 (P j) v (Z j)
  low : ∀ g, U g → w0.heap.size ≤ g
  bel : Below w0.heap.size w0 w
theorem LSt.ends (h : LSt w0 kb ga B0 B1 n1 n2 n4 P Z m l a z1 z2 z4 rv i WR N U w) : LEnd w0 kb ga B0 B1 P Z rv i WR N U w := ⟨h.is, h.was, h.all, h.ga, h.lay, h.had, h.low, h.bel⟩
/-- A row older than the layouts is kept. -/
theorem LEnd.old {k : Value} {n : Nat} {ys : List Value} (h : LEnd w0 kb ga B0 B1 P Z rv i WR N U w) (ho : Row U w 3 1 k n ys) (hs : ∀ x, k.ownBlock = some x → x < B0) (hlow : ∀ x, k.ownBlock = some x → w0.heap.size ≤ x) (hI : Is Bk.usedL w' kb (Bk.more U w w' k) (N + 1)) (hK : Kept U w w') :
    LEnd w0 kb ga B0 B1 P Z rv i WR (N + 1) (Bk.more U w w' k) w' := by
  refine ⟨hI, h.was.keep hK (Bk.sep_type h.was.1 ho.1 (by decide)), (hK.block ga (lt_heap h.all) h.ga).trans h.all, fun hx => ?_, fun j hj => (h.lay j hj).keep hK ho.1 (fun x hx => .inl (hs x hx)),
    fun j hj => ?_, Bk.more_low h.low hlow h.bel.size, Bk.kept_low h.bel hK h.low h.bel.size⟩
  · rcases hx with hx | hx | hx
    · exact h.ga hx
    · exact Bk.own_not_cells ho.1 h.all (by decide) hx
    · have := lt_heap h.all; omega
  · obtain ⟨v, h1, h2⟩ := h.had j hj
    exact ⟨v, h1, h2.elim (fun h => .inl h) (fun h2 => .inr ⟨h2.1.keep hK (fun g hg hk => by have := h2.2 g hg; have := hs g hk; omega), h2.2⟩)⟩
/-- Finish leaves all. -/
theorem LEnd.finish (h : LEnd w0 kb ga B0 B1 P Z rv i WR N U w) (hK : Kept U w w') : w'.ownsRow 0 84 1 rv i WR ∧ w'.heap[ga]? = some (.cells #[.pointer (P 0), .pointer (P 1), .pointer (P 2)] 101 (0, 0)) ∧ (∀ j, j < 3 → LayS U w' B0 B1 (P j) (Z j)) ∧
    (∀ j, j < i → ∃ v, WR[j]? = some v ∧ WasS U w' B0 (P j) v (Z j)) ∧ Below w0.heap.size w0 w' :=
  ⟨(h.was.finish hK).1, (hK.block ga (lt_heap h.all) h.ga).trans h.all, fun j hj => (h.lay j hj).finish hK, fun j hj => by
    obtain ⟨v, h1, h2⟩ := h.had j hj
    exact ⟨v, h1, h2.elim (fun h => .inl h) (fun h2 => .inr ⟨h2.1.finish hK, h2.2⟩)⟩, Bk.kept_low h.bel hK h.low h.bel.size⟩
theorem LSt.cell (h : LSt w0 kb ga B0 B1 n1 n2 n4 P Z m l a z1 z2 z4 rv i WR N U w) {j : Nat} (hj : j < 3) : w.cell? ⟨ga, j, none⟩ = some (.pointer (P j)) := by
  rw [cell_heap h.all]
  match j, hj with
  | 0, _ => rfl
  | 1, _ => rfl
  | 2, _ => rfl
end
end Go.Proofs.YtmeoafodcniliaaGreatDoor
