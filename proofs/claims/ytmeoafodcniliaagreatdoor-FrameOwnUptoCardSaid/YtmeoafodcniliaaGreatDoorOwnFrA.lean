/- FrameOwn: what the walk holds -/
import Derived.Test.YtmeoafodcniliaaGreatDoorC3
import Derived.Test.YtmeoafodcniliaaGreatDoorBk13k
import Derived.Test.YtmeoafodcniliaaGreatDoorBkE
namespace Go.Proofs.YtmeoafodcniliaaGreatDoor
open Go.RowKit
open Bk (Row Is Sep Kept NC Fr FrKept)
set_option linter.unusedSimpArgs false
set_option linter.unusedVariables false
set_option maxRecDepth 20000
namespace Bk
def usedF : Nat → Bool := only [0, 13]
theorem usedF_ok : UsedOK usedF := by intro K hK; revert K; decide
theorem allF : All usedF := by
  intro K hK
  match K, hK with
  | 0, _ => exact kind0.mono (fun _ _ => trivial)
  | 1, _ => exact empty1.mono (fun l h => h.resolve_left (by decide))
  | 2, _ => exact empty2.mono (fun l h => h.resolve_left (by decide))
  | 3, _ => exact empty3.mono (fun l h => h.resolve_left (by decide))
  | 4, _ => exact empty4.mono (fun l h => h.resolve_left (by decide))
  | 5, _ => exact empty5.mono (fun l h => h.resolve_left (by decide))
  | 6, _ => exact empty6.mono (fun l h => h.resolve_left (by decide))
  | 7, _ => exact empty7.mono (fun l h => h.resolve_left (by decide))
  | 8, _ => exact empty8.mono (fun l h => h.resolve_left (by decide))
  | 9, _ => exact empty9.mono (fun l h => h.resolve_left (by decide))
  | 10, _ => exact empty10.mono (fun l h => h.resolve_left (by decide))
  | 11, _ => exact empty11.mono (fun l h => h.resolve_left (by decide))
  | 12, _ => exact empty12.mono (fun l h => h.resolve_left (by decide))
  | 13, _ => exact kind13.mono (fun _ _ => trivial)
  | 14, _ => exact empty14.mono (fun l h => h.resolve_left (by decide))
  | 15, _ => exact empty15.mono (fun l h => h.resolve_left (by decide))
  | 16, _ => exact empty16.mono (fun l h => h.resolve_left (by decide))
  | K + 17, h => omega
end Bk
theorem flat2_len {α : Type} (f g : α → Value) : ∀ fs : List α, (fs.flatMap fun x => [f x, g x]).length = fs.length * 2
  | [] => rfl
  | x :: fs => by
    rw [List.flatMap_cons, List.length_append, flat2_len f g fs]
    simp; omega
/-- Frames as Row lays them. -/
theorem frs_of {w : World} {base : Nat} {cells : List Value} {L : FrL} (h : FrSl w base cells L) : ∃ fs : List Fr, fs.length = L.length ∧ cells = fs.flatMap (fun f => [Value.int .i64 f.kind, f.pv]) ∧
    (∀ (i : Nat) (f : Fr), fs[i]? = some f → ∃ k p, L[i]? = some (k, p) ∧ f.bs = p ∧ w.ownsRow base 5 1 f.pv f.bs.length (f.bs.map V8) ∧ cells[2 * i + 1]? = some f.pv) := by
  refine ⟨(List.range L.length).map (fun i => ⟨(n8 (L.getD i (0, [])).1 : Int), cells.getD (2 * i + 1) (.bool false), (.bool false), (L.getD i (0, [])).2⟩), by simp, ?_, ?_⟩
  · apply List.ext_getElem?
    intro j
    rcases Nat.lt_or_ge j cells.length with hj | hj
    · have hi : j / 2 < L.length := by have := h.1; omega
      obtain ⟨⟨k, p⟩, hLi⟩ : ∃ x, L[j / 2]? = some x := ⟨_, List.getElem?_eq_getElem hi⟩
      obtain ⟨A, cap, e0, e1, _⟩ := h.2.1 (j / 2) k p hLi
      have hfi : ((List.range L.length).map (fun i => (⟨(n8 (L.getD i (0, [])).1 : Int), cells.getD (2 * i + 1) (.bool false), (.bool false), (L.getD i (0, [])).2⟩ : Fr)))[j / 2]? = some ⟨(n8 (L.getD (j / 2) (0, [])).1 : Int), cells.getD (2 * (j / 2) + 1) (.bool false), (.bool false), (L.getD (j / 2) (0, [])).2⟩ := by
        rw [List.getElem?_map, List.getElem?_range hi]; rfl
      obtain ⟨f0, f1⟩ := Bk.frs_get (fun f => f.pv) _ _ _ hfi
      rcases Nat.mod_two_eq_zero_or_one j with hm | hm
      · rw [show 2 * (j / 2) = j by omega] at e0
        rw [show j / 2 * 2 = j by omega] at f0
        rw [f0, e0]
        simp only [List.getD, hLi, Option.getD_some]
      · rw [show 2 * (j / 2) + 1 = j by omega] at e1 f1
        rw [show j / 2 * 2 + 1 = j by omega] at f1
        rw [f1, e1]
        simp only [List.getD, e1, Option.getD_some]
    · rw [List.getElem?_eq_none hj, List.getElem?_eq_none]
      rw [flat2_len, List.length_map, List.length_range]
      have := h.1; omega
  · intro i f hf
    have hi : i < L.length := by have := (List.getElem?_eq_some_iff.1 hf).1; simpa using this
    obtain ⟨⟨k, p⟩, hLi⟩ : ∃ x, L[i]? = some x := ⟨_, List.getElem?_eq_getElem hi⟩
    obtain ⟨A, cap, e0, e1, ho⟩ := h.2.1 i k p hLi
    rw [List.getElem?_map, List.getElem?_range hi] at hf
    injection hf with hf
    subst hf
    refine ⟨k, p, hLi, ?_, ?_, ?_⟩
    · simp only [List.getD, hLi, Option.getD_some]
    · simp only [List.getD, hLi, e1, Option.getD_some]
      exact ho
    · simp only [List.getD, e1, Option.getD_some]
theorem rows_small : ∀ (f : Nat) (b : List (BitVec 8)), (Fr.rows f b).length ≤ f ∧ ∀ x ∈ Fr.rows f b, x.2.length ≤ 1024
  | 0, b => ⟨Nat.le_refl _, by intro x hx; cases hx⟩
  | f + 1, b => by
    by_cases hg : Fr.good b = true
    · rw [Fr.rows_good hg]
      obtain ⟨h1, h2⟩ := rows_small f (b.drop (Fr.nOf b + 12))
      refine ⟨by simp; omega, fun x hx => ?_⟩
      rcases List.mem_cons.1 hx with rfl | hx
      · have := Fr.good_len hg; have := Fr.good_nOf hg
        show (Fr.pOf b).length ≤ 1024
        rw [Fr.pOf_length (by omega)]; omega
      · exact h2 x hx
    · rw [Fr.rows_bad (by simpa using hg)]
      exact ⟨by simp, by intro x hx; cases hx⟩
theorem encL_small (k : Int) (bs : List (BitVec 8)) : (encL k bs).length ≤ 1036 := by
  unfold encL
  split
  · rename_i h; rw [Fr.encode_length]; omega
  · simp
theorem encE_range (k : Int) (bs : List (BitVec 8)) : 0 ≤ encE k bs ∧ encE k bs ≤ 100 := by
  unfold encE
  split
  · split <;> omega
  · omega
/-- What the walk holds. -/
structure FSt (w0 : World) (kb n : Nat) (mv : Value) (bs : List (BitVec 8)) (N : Nat) (U : Nat → Prop) (w : World) : Prop where
  is : Is Bk.usedF w kb U N
  mine : Row U w 5 1 mv (n + 2) ((bs ++ [47#8, 11#8]).map V8)
  low : ∀ g, U g → w0.heap.size ≤ g
  bel : Below w0.heap.size w0 w
  lm : ∀ g, mv.ownBlock = some g → w0.heap.size ≤ g
  lb : bs.length = n
section
variable {w0 w w' : World} {kb n N M : Nat} {mv : Value} {bs bs' : List (BitVec 8)} {U : Nat → Prop}
theorem FSt.below (h : FSt w0 kb n mv bs N U w) (hb : Below w.heap.size w w') : FSt w0 kb n mv bs N U w' :=
  ⟨h.is.below hb, h.mine.below hb, h.low, h.bel.trans (hb.mono h.bel.size), h.lm, h.lb⟩
theorem FSt.weak (h : FSt w0 kb n mv bs N U w) (hM : N ≤ M) : FSt w0 kb n mv bs M U w := ⟨h.is.weak hM, h.mine, h.low, h.bel, h.lm, h.lb⟩
/-- A row of bytes is kept. -/
theorem FSt.push {l : Value} (h : FSt w0 kb n mv bs N U w) (hs : Sep mv l) (hlow : ∀ g, l.ownBlock = some g → w0.heap.size ≤ g) (hI : Is Bk.usedF w' kb (Bk.more U w w' l) (N + 1)) (hK : Kept U w w') :
    FSt w0 kb n mv bs (N + 1) (Bk.more U w w' l) w' :=
  ⟨hI, h.mine.keep hK hs, Bk.more_low h.low hlow h.bel.size, Bk.kept_low h.bel hK h.low h.bel.size, h.lm, h.lb⟩
/-- A row of frames is kept. -/
theorem FSt.frames {l : Value} {fs : List Fr} {m : Nat} {xs : List Value} (h : FSt w0 kb n mv bs N U w) (hl : w.ownsRow 0 74 2 l m xs) (hlow : ∀ g, l.ownBlock = some g → w0.heap.size ≤ g)
    (hs : ∀ f ∈ fs, Sep mv f.pv) (hpl : ∀ f ∈ fs, ∀ g, f.pv.ownBlock = some g → w0.heap.size ≤ g) (hK : FrKept Bk.usedF w w' kb U M l fs) : ∃ V, FSt w0 kb n mv bs M V w' := by
  obtain ⟨⟨V, h1, h2, h3, h4⟩, h5, h6⟩ := hK
  refine ⟨V, h1, ⟨Bk.own_nc h.mine.1 (by decide) h5, fun g hg hV => ?_⟩, fun g hV => ?_, h.bel.trans (h6.below h.bel.size fun g hg => ?_), h.lm, h.lb⟩
  · rcases h4 g hV with e | e | ⟨f, hf, e⟩ | e
    · exact h.mine.2 g hg e
    · exact Bk.own_apart h.mine.1 hl (by decide) hg e
    · exact hs f hf g hg e
    · have := (Bk.own_blk h.mine.1 hg).2; omega
  · rcases h4 g hV with e | e | ⟨f, hf, e⟩ | e
    · exact h.low g e
    · exact hlow g e
    · exact hpl f hf g e
    · have := h.bel.size; omega
  · rcases hg with e | e | ⟨f, hf, e⟩
    · exact h.low g e
    · exact hlow g e
    · exact hpl f hf g e
/-- mine is written. -/
theorem FSt.chM (h : FSt w0 kb n mv bs N U w) (hK : Kept (fun g => mv.ownBlock = some g) w w') (ho : w'.ownsRow 0 5 1 mv (n + 2) ((bs' ++ [47#8, 11#8]).map V8)) (hl : bs'.length = n) : FSt w0 kb n mv bs' N U w' :=
  ⟨h.is.kept hK (fun g hg he => h.mine.2 g he hg), ⟨ho, h.mine.2⟩, h.low, h.bel.trans (hK.below h.bel.size h.lm), h.lm, hl⟩
end
end Go.Proofs.YtmeoafodcniliaaGreatDoor
