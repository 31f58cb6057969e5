/- TextOwn: what the walk holds -/
import Derived.Test.YtmeoafodcniliaaGreatDoorOwnTxB
namespace Go.Proofs.YtmeoafodcniliaaGreatDoor
open Go.RowKit
open C4 (EdIs Keep ToIs)
open Bk (Row Is Sep Kept more)
set_option linter.unusedSimpArgs false
set_option linter.unusedVariables false
set_option maxRecDepth 20000
/-- The blocks of the scanner and of what was told. -/
def Ot (g ga : Nat) (rv av : Value) (x : Nat) : Prop := x = g ∨ x = ga ∨ rv.ownBlock = some x ∨ av.ownBlock = some x
/-- A row that is neither the book's, nor the scanner's, nor older than the call. -/
abbrev PRow (w0 : World) (U O : Nat → Prop) (w : World) (e s : Nat) (v : Value) (n : Nat) (xs : List Value) : Prop := Row (fun x => U x ∨ O x ∨ x < w0.heap.size) w e s v n xs
structure TSt (w0 : World) (kb g ga : Nat) (rv av : Value) (F : List (BitVec 8)) (P : List (Int × Int)) (e : Int) (N : Nat) (U : Nat → Prop) (w : World) : Prop where
  is : Is Bk.usedT w kb U N
  sc : Sc w g rv F
  tl : ToIs w ga av e 0 0
  al : w.ownsRow 0 127 2 av P.length (C4.pcs P)
  out : ∀ x, Ot g ga rv av x → ¬ U x ∧ w0.heap.size ≤ x
  ne : g ≠ ga
  low : ∀ x, U x → w0.heap.size ≤ x
  bel : Below w0.heap.size w0 w
section
variable {w0 w w' : World} {kb g ga N : Nat} {rv av : Value} {F cs : List (BitVec 8)} {P : List (Int × Int)} {e : Int} {U O : Nat → Prop}
theorem ToIs_kept {G : Nat → Prop} {pv : Value} {n l : Int} (h : ToIs w ga pv e n l) (hk : Kept G w w') (hn : ¬ G ga) : ToIs w' ga pv e n l := (hk.block ga (lt_heap h) hn).trans h
theorem TSt.lt (h : TSt w0 kb g ga rv av F P e N U w) {x : Nat} (hx : Ot g ga rv av x) : x < w.heap.size := by
  rcases hx with rfl | rfl | hx | hx
  · exact h.sc.lt
  · exact h.tl.lt
  · exact h.sc.rlt hx
  · exact (Bk.own_blk h.al hx).2
theorem TSt.below (h : TSt w0 kb g ga rv av F P e N U w) (hb : Below w.heap.size w w') : TSt w0 kb g ga rv av F P e N U w' :=
  ⟨h.is.below hb, h.sc.below hb, (hb.block ga h.tl.lt).trans h.tl, Bk.own_below_any h.al hb, h.out, h.ne, h.low, h.bel.trans (hb.mono h.bel.size)⟩
theorem TSt.ult (h : TSt w0 kb g ga rv av F P e N U w) : ∀ x, (U x ∨ Ot g ga rv av x ∨ x < w0.heap.size) → x < w.heap.size := fun x hx => by
  rcases hx with hx | hx | hx
  · exact h.is.ult x hx
  · exact h.lt hx
  · have := h.bel.size; omega
/-- A row that a call gave back. -/
theorem TSt.fresh {t s n : Nat} {v : Value} {xs : List Value} (h : TSt w0 kb g ga rv av F P e N U w) (ho : w'.ownsRow w.heap.size t s v n xs) : PRow w0 U (Ot g ga rv av) w' t s v n xs := Row.fresh ho h.ult
theorem PRow.keep {t s n : Nat} {v l : Value} {xs : List Value} (h : PRow w0 U O w t s v n xs) (hk : Kept U w w') (hs : Sep v l) : PRow w0 (more U w w' l) O w' t s v n xs :=
  ⟨Bk.own_kept h.1 hk (fun x hx hu => h.2 x hx (.inl hu)), fun x hx hp => by
    rcases hp with (hp | hp | hp) | hp
    · exact h.2 x hx (.inl hp)
    · exact hs x hx hp
    · have := (Bk.own_blk h.1 hx).2; omega
    · exact h.2 x hx (.inr hp)⟩
theorem PRow.free {t s n : Nat} {v : Value} {xs : List Value} (h : PRow w0 U O w t s v n xs) : ∀ x, v.ownBlock = some x → ¬ U x := fun x hx hu => h.2 x hx (.inl hu)
/-- A row is kept in the book. -/
theorem TSt.push {t s n : Nat} {l : Value} {xs : List Value} (h : TSt w0 kb g ga rv av F P e N U w) (hl : PRow w0 U (Ot g ga rv av) w t s l n xs) (hI : Is Bk.usedT w' kb (more U w w' l) (N + 1)) (hK : Kept U w w') : TSt w0 kb g ga rv av F P e (N + 1) (more U w w' l) w' := by
  have hou := fun x hx => (h.out x hx).1
  refine ⟨hI, h.sc.kept hK (hou _ (.inl rfl)) (fun x hx => hou x (.inr (.inr (.inl hx)))), ToIs_kept h.tl hK (hou _ (.inr (.inl rfl))), Bk.own_kept h.al hK (fun x hx => hou x (.inr (.inr (.inr hx)))), fun x hx => ⟨fun hp => ?_, (h.out x hx).2⟩, h.ne, Bk.more_low h.low (fun x hx => ?_) h.bel.size, Bk.kept_low h.bel hK h.low h.bel.size⟩
  · rcases hp with hp | hp | hp
    · exact hou x hx hp
    · exact hl.2 x hp (.inr (.inl hx))
    · have := h.lt hx; omega
  · exact Nat.le_of_not_lt fun hlt => hl.2 x hx (.inr (.inr hlt))
/-- The scanner is fed. -/
theorem TSt.feed {rv' : Value} {F' : List (BitVec 8)} (h : TSt w0 kb g ga rv av F P e N U w) (hk : Kept (fun x => x = g ∨ rv.ownBlock = some x) w w') (hs : Sc w' g rv' F') (hr : ∀ x, rv'.ownBlock = some x → w.heap.size ≤ x) (hra : ∀ x, rv.ownBlock = some x → x ≠ ga ∧ av.ownBlock ≠ some x) (hga : av.ownBlock ≠ some g) :
    TSt w0 kb g ga rv' av F' P e N U w' := by
  have hG : ∀ x, (x = g ∨ rv.ownBlock = some x) → Ot g ga rv av x := fun x hx => hx.elim .inl (fun h => .inr (.inr (.inl h)))
  refine ⟨h.is.kept hk (fun x hu hx => (h.out x (hG x hx)).1 hu), hs, ToIs_kept h.tl hk (fun hx => hx.elim (fun e => h.ne e.symm) (fun hx => (hra _ hx).1 rfl)), Bk.own_kept h.al hk (fun x hx hp => hp.elim (fun e => hga (e ▸ hx)) (fun hp => (hra x hp).2 hx)), fun x hx => ?_, h.ne, h.low, h.bel.trans (hk.below h.bel.size fun x hx => (h.out x (hG x hx)).2)⟩
  rcases hx with hx | hx | hx | hx
  · exact h.out x (.inl hx)
  · exact h.out x (.inr (.inl hx))
  · exact ⟨fun hu => by have := h.is.ult x hu; have := hr x hx; omega, Nat.le_trans h.bel.size (hr x hx)⟩
  · exact h.out x (.inr (.inr (.inr hx)))
theorem PRow.feed {t s n : Nat} {v rv' : Value} {xs : List Value} (h : PRow w0 U (Ot g ga rv av) w t s v n xs) (hk : Kept (fun x => x = g ∨ rv.ownBlock = some x) w w') (hr : ∀ x, rv'.ownBlock = some x → w.heap.size ≤ x) : PRow w0 U (Ot g ga rv' av) w' t s v n xs := by
  refine ⟨Bk.own_kept h.1 hk (fun x hx hp => h.2 x hx (.inr (.inl (hp.elim .inl (fun h => .inr (.inr (.inl h))))))), fun x hx hp => ?_⟩
  rcases hp with hp | (hp | hp | hp | hp) | hp
  · exact h.2 x hx (.inl hp)
  · exact h.2 x hx (.inr (.inl (.inl hp)))
  · exact h.2 x hx (.inr (.inl (.inr (.inl hp))))
  · have := (Bk.own_blk h.1 hx).2; have := hr x hp; omega
  · exact h.2 x hx (.inr (.inl (.inr (.inr (.inr hp)))))
  · exact h.2 x hx (.inr (.inr hp))
/-- What was told is written on. -/
theorem TSt.tell {av' : Value} {P' : List (Int × Int)} {e' : Int} {G : Nat → Prop} (h : TSt w0 kb g ga rv av F P e N U w) (hk : Kept G w w') (hG : ∀ x, G x → x = ga ∨ av.ownBlock = some x) (ho : w'.ownsRow 0 127 2 av' P'.length (C4.pcs P')) (ht : ToIs w' ga av' e' 0 0)
    (hn : ∀ x, av'.ownBlock = some x → av.ownBlock = some x ∨ w.heap.size ≤ x) (hga : ∀ x, av.ownBlock = some x → x ≠ g ∧ rv.ownBlock ≠ some x) (hrg : rv.ownBlock ≠ some ga) : TSt w0 kb g ga rv av' F P' e' N U w' := by
  have hG2 : ∀ x, G x → Ot g ga rv av x := fun x hx => (hG x hx).elim (fun h => .inr (.inl h)) (fun h => .inr (.inr (.inr h)))
  refine ⟨h.is.kept hk (fun x hu hx => (h.out x (hG2 x hx)).1 hu), h.sc.kept hk (fun hx => (hG _ hx).elim h.ne (fun hx => (hga _ hx).1 rfl)) (fun x hx hp => (hG x hp).elim (fun e => hrg (e ▸ hx)) (fun hp => (hga x hp).2 hx)), ht, ho, fun x hx => ?_, h.ne, h.low, h.bel.trans (hk.below h.bel.size fun x hx => (h.out x (hG2 x hx)).2)⟩
  rcases hx with hx | hx | hx | hx
  · exact h.out x (.inl hx)
  · exact h.out x (.inr (.inl hx))
  · exact h.out x (.inr (.inr (.inl hx)))
  · rcases hn x hx with hx | hx
    · exact h.out x (.inr (.inr (.inr hx)))
    · exact ⟨fun hu => by have := h.is.ult x hu; omega, Nat.le_trans h.bel.size hx⟩
theorem PRow.tell {t s n : Nat} {v av' : Value} {xs : List Value} {G : Nat → Prop} (h : PRow w0 U (Ot g ga rv av) w t s v n xs) (hk : Kept G w w') (hG : ∀ x, G x → x = ga ∨ av.ownBlock = some x) (hn : ∀ x, av'.ownBlock = some x → av.ownBlock = some x ∨ w.heap.size ≤ x) : PRow w0 U (Ot g ga rv av') w' t s v n xs := by
  refine ⟨Bk.own_kept h.1 hk (fun x hx hp => h.2 x hx (.inr (.inl ((hG x hp).elim (fun h => .inr (.inl h)) (fun h => .inr (.inr (.inr h))))))), fun x hx hp => ?_⟩
  rcases hp with hp | (hp | hp | hp | hp) | hp
  · exact h.2 x hx (.inl hp)
  · exact h.2 x hx (.inr (.inl (.inl hp)))
  · exact h.2 x hx (.inr (.inl (.inr (.inl hp))))
  · exact h.2 x hx (.inr (.inl (.inr (.inr (.inl hp)))))
  · rcases hn x hp with hp | hp
    · exact h.2 x hx (.inr (.inl (.inr (.inr (.inr hp)))))
    · have := (Bk.own_blk h.1 hx).2; omega
  · exact h.2 x hx (.inr (.inr hp))
theorem PRow.below {t s n : Nat} {v : Value} {xs : List Value} (h : PRow w0 U O w t s v n xs) (hb : Below w.heap.size w w') : PRow w0 U O w' t s v n xs := Row.below h hb
/-- Unlike types: the scanner's row, the row of pairs, the two structs. -/
theorem TSt.apart (h : TSt w0 kb g ga rv av F P e N U w) : (∀ x, rv.ownBlock = some x → x ≠ ga ∧ x ≠ g ∧ av.ownBlock ≠ some x) ∧ (∀ x, av.ownBlock = some x → x ≠ ga ∧ x ≠ g ∧ rv.ownBlock ≠ some x) := by
  have hto := h.tl
  unfold ToIs at hto
  have hga : av.ownBlock ≠ some ga := Bk.own_not_cells h.al hto (by decide)
  have hed : ∃ cs fr, w.heap[g]? = some (.cells cs 132 fr) := by
    rcases h.sc with ⟨_, hh, _⟩ | ⟨_, _, v, L, f, n, b, hh⟩
    · exact ⟨_, _, hh⟩
    · exact ⟨_, _, hh⟩
  obtain ⟨ecs, efr, hed⟩ := hed
  have hgg : av.ownBlock ≠ some g := Bk.own_not_cells h.al hed (by decide)
  have hrr : ∀ x, rv.ownBlock = some x → x ≠ ga ∧ x ≠ g ∧ av.ownBlock ≠ some x := fun x hx => by
    rcases h.sc with ⟨_, _, ho⟩ | ⟨_, rfl, _⟩
    · exact ⟨fun e => Bk.own_not_cells ho hto (by decide) (e ▸ hx), fun e => Bk.own_not_cells ho hed (by decide) (e ▸ hx), Bk.own_apart ho h.al (by decide) hx⟩
    · cases hx
  exact ⟨hrr, fun x hx => ⟨fun e => hga (e ▸ hx), fun e => hgg (e ▸ hx), fun hr => (hrr x hr).2.2 hx⟩⟩
end
section
variable {w0 w w' : World} {kb g ga N M : Nat} {rv av : Value} {F cs : List (BitVec 8)} {P : List (Int × Int)} {e : Int} {U : Nat → Prop}
theorem TSt.weak (h : TSt w0 kb g ga rv av F P e N U w) (hM : N ≤ M) : TSt w0 kb g ga rv av F P e M U w := ⟨h.is.weak hM, h.sc, h.tl, h.al, h.out, h.ne, h.low, h.bel⟩
/-- What Feed answers, beside a scanner that was fed. -/
theorem TSt.freshF {rv' : Value} {F' : List (BitVec 8)} {v : Value} {n : Nat} {xs : List Value} (h : TSt w0 kb g ga rv av F P e N U w) (hs : Sc w' g rv' F') (ho : w'.ownsRow w.heap.size 127 2 v n xs) : PRow w0 U (Ot g ga rv' av) w' 127 2 v n xs := by
  refine ⟨Bk.own_zero ho, fun x hx hp => ?_⟩
  have h1 := (Bk.own_blk ho hx).1
  rcases hp with hp | (hp | hp | hp | hp) | hp
  · have := h.is.ult x hp; omega
  · have := h.sc.lt; omega
  · have := h.tl.lt; omega
  · rcases hs with ⟨_, _, hr⟩ | ⟨_, hr, _⟩
    · exact Bk.own_apart ho hr (by decide) hx hp
    · rw [hr] at hp; cases hp
  · have := (Bk.own_blk h.al hp).2; omega
  · have := h.bel.size; omega
/-- What is left when the book is done. -/
structure TFin (w0 : World) (g ga : Nat) (rv av : Value) (F : List (BitVec 8)) (P : List (Int × Int)) (e : Int) (w : World) : Prop where
  sc : Sc w g rv F
  tl : ToIs w ga av e 0 0
  al : w.ownsRow 0 127 2 av P.length (C4.pcs P)
  out : ∀ x, Ot g ga rv av x → w0.heap.size ≤ x
  ne : g ≠ ga
  bel : Below w0.heap.size w0 w
theorem TSt.finish (h : TSt w0 kb g ga rv av F P e N U w) (hK : Kept U w w') : TFin w0 g ga rv av F P e w' := by
  have hou := fun x hx => (h.out x hx).1
  exact ⟨h.sc.kept hK (hou _ (.inl rfl)) (fun x hx => hou x (.inr (.inr (.inl hx)))), ToIs_kept h.tl hK (hou _ (.inr (.inl rfl))), Bk.own_kept h.al hK (fun x hx => hou x (.inr (.inr (.inr hx)))), fun x hx => (h.out x hx).2, h.ne, Bk.kept_low h.bel hK h.low h.bel.size⟩
theorem TFin.below (h : TFin w0 g ga rv av F P e w) (hb : Below w.heap.size w w') : TFin w0 g ga rv av F P e w' :=
  ⟨h.sc.below hb, (hb.block ga h.tl.lt).trans h.tl, Bk.own_below_any h.al hb, h.out, h.ne, h.bel.trans (hb.mono h.bel.size)⟩
theorem TFin.apart (h : TFin w0 g ga rv av F P e w) : ∀ x, av.ownBlock = some x → x ≠ ga ∧ x ≠ g := by
  have hto := h.tl
  unfold ToIs at hto
  have hed : ∃ cs fr, w.heap[g]? = some (.cells cs 132 fr) := by
    rcases h.sc with ⟨_, hh, _⟩ | ⟨_, _, v, L, f, n, b, hh⟩
    · exact ⟨_, _, hh⟩
    · exact ⟨_, _, hh⟩
  obtain ⟨ecs, efr, hed⟩ := hed
  exact fun x hx => ⟨fun e => Bk.own_not_cells h.al hto (by decide) (e ▸ hx), fun e => Bk.own_not_cells h.al hed (by decide) (e ▸ hx)⟩
theorem chs_triples (Q : List C4.Tx.Ch) : C4.chs Q = (Q.map fun c => (c.u, c.v, c.gone)).flatMap fun p => [.int .i64 p.1, .int .i64 p.2.1, .bool p.2.2] := by
  unfold C4.chs; rw [List.flatMap_map]
end
/-- What was told and what was wanted, at the end: alike. -/
def TEnd (w0 W : World) (ga gw : Nat) (Aw : Option Addr) (cw tt : Nat) (E y4 y5 : Int) (T : List (Int × Int)) : Prop :=
  ∃ A8 c8, ToIs W ga (.slice A8 tt c8) E 0 0 ∧ W.ownsRow 0 127 2 (.slice A8 tt c8) tt (C4.pcs T) ∧ ToIs W gw (.slice Aw tt cw) E y4 y5 ∧ W.ownsRow 0 127 2 (.slice Aw tt cw) tt (C4.pcs T) ∧ Below w0.heap.size w0 W
/-- A text that many times over. -/
def reps (b : List (BitVec 8)) : Nat → List (BitVec 8)
  | 0 => []
  | i + 1 => reps b i ++ b
theorem reps_len (b : List (BitVec 8)) : ∀ i, (reps b i).length = i * b.length
  | 0 => by simp [reps]
  | i + 1 => by rw [reps, List.length_append, reps_len b i, Nat.add_mul, Nat.one_mul]
end Go.Proofs.YtmeoafodcniliaaGreatDoor
