/- the book as a law keeps lists in it -/
import Derived.Test.YtmeoafodcniliaaGreatDoorBkS
namespace Go.Proofs.YtmeoafodcniliaaGreatDoor
open Go.RowKit
set_option linter.unusedSimpArgs false
set_option linter.unusedVariables false
namespace Bk
/-- The book in memory: which kinds hold lists; its block; the blocks that are its own or kept by it; how many lists a kind may have. -/
structure BkP (used : Nat → Bool) (w : World) (kb : Nat) (U : Nat → Prop) (N : Nat) (vs ws : Nat → List Value) (hv hw : Nat → Value) : Prop where
  bk : BkC w kb 0 0
  k : ∀ K, K < 17 → KW w kb K (vs K) (ws K) (hv K) (hw K)
  len : ∀ K, K < 17 → (ws K).length = (vs K).length
  same : ∀ K, K < 17 → ∀ (i : Nat) v, (vs K)[i]? = some v → ∃ u, (ws K)[i]? = some u ∧ Same K U w v u
  apart : ∀ K, K < 17 → Apart (vs K)
  few : ∀ K, K < 17 → (vs K).length ≤ N
  used : ∀ K, K < 17 → used K = true ∨ vs K = []
  ukb : U kb
  uhv : ∀ K, K < 17 → ∀ g, (hv K).ownBlock = some g → U g
  uhw : ∀ K, K < 17 → ∀ g, (hw K).ownBlock = some g → U g
  ult : ∀ g, U g → g < w.heap.size
def Is (used : Nat → Bool) (w : World) (kb : Nat) (U : Nat → Prop) (N : Nat) : Prop := ∃ vs ws hv hw, BkP used w kb U N vs ws hv hw
/-- What one call of a keeping method makes. -/
def KeepRaw (D : Nat → Prop) (w : World) (kb K : Nat) (vs ws : List Value) (hv hw l : Value) (en : Ending) (w' : World) : Prop :=
  en = .returned (.tuple #[]) ∧ ∃ u hv' hw', BkC w' kb 0 0 ∧ KW w' kb K (vs ++ [l]) (ws ++ [u]) hv' hw' ∧ Kept (fun x => x = kb ∨ hv.ownBlock = some x ∨ hw.ownBlock = some x) w w' ∧
    (∀ f, f ≠ 2 + 3 * K → f ≠ 3 + 3 * K → w'.cell? ⟨kb, f, none⟩ = w.cell? ⟨kb, f, none⟩) ∧ (∀ g, hv'.ownBlock = some g → hv.ownBlock = some g ∨ w.heap.size ≤ g) ∧ (∀ g, hw'.ownBlock = some g → hw.ownBlock = some g ∨ w.heap.size ≤ g) ∧
    ∀ U : Nat → Prop, (∀ g, D g → U g) → (∀ g, l.ownBlock = some g → U g) → (∀ g, w.heap.size ≤ g → g < w'.heap.size → U g) → Same K U w' l u
theorem cont_sT (K : Nat) : cont (sT K) = false := by unfold sT; split <;> rfl
theorem sT_inj : ∀ K, K < 17 → ∀ L, L < 17 → sT K = sT L → K = L := by decide
theorem cont_eT_sT (K L : Nat) (h : cont (eT K) = true) : sT L ≠ eT K := fun e => by
  have := cont_sT L
  rw [e, h] at this; cases this
section
variable {used : Nat → Bool} {w w' : World} {kb N : Nat} {U F : Nat → Prop} {vs ws : Nat → List Value} {hv hw : Nat → Value}
theorem BkP.kept (h : BkP used w kb U N vs ws hv hw) (hk : Kept F w w') (hF : ∀ g, U g → ¬ F g) : BkP used w' kb U N vs ws hv hw :=
  ⟨h.bk.kept hk (hF kb h.ukb), fun K hK => ⟨(h.k K hK).hvs.kept h.bk hk (hF kb h.ukb) (fun g hg => hF g (h.uhv K hK g hg)), (h.k K hK).hws.kept h.bk hk (hF kb h.ukb) (fun g hg => hF g (h.uhw K hK g hg)), (hk.cell h.bk.lt (hF kb h.ukb)).trans (h.k K hK).hgs, (h.k K hK).sep⟩,
    h.len, fun K hK i v hv => by
      obtain ⟨u, h1, h2⟩ := h.same K hK i v hv
      exact ⟨u, h1, h2.kept hk (fun g hg hFg => absurd hFg (hF g hg)) (fun _ h => h)⟩, h.apart, h.few, h.used, h.ukb, h.uhv, h.uhw, fun g hg => Nat.lt_of_lt_of_le (h.ult g hg) hk.size⟩
theorem Is.kept (h : Is used w kb U N) (hk : Kept F w w') (hF : ∀ g, U g → ¬ F g) : Is used w' kb U N := by
  obtain ⟨vs, ws, hv, hw, h⟩ := h
  exact ⟨vs, ws, hv, hw, h.kept hk hF⟩
theorem Is.below (h : Is used w kb U N) (hk : Below w.heap.size w w') : Is used w' kb U N := h.kept (F := fun _ => False) (Kept.of_below hk) (fun _ _ h => h)
theorem Is.lt (h : Is used w kb U N) {g : Nat} (hg : U g) : g < w.heap.size := by obtain ⟨vs, ws, hv, hw, h⟩ := h; exact h.ult g hg
/-- The blocks that are the book's behind a call that keeps l. -/
def more (U : Nat → Prop) (w w' : World) (l : Value) (g : Nat) : Prop := U g ∨ l.ownBlock = some g ∨ (w.heap.size ≤ g ∧ g < w'.heap.size)
def upd {α : Type} (f : Nat → α) (K : Nat) (x : α) (L : Nat) : α := if L = K then x else f L
theorem upd_same {α : Type} (f : Nat → α) (K : Nat) (x : α) : upd f K x K = x := if_pos rfl
theorem upd_ne {α : Type} (f : Nat → α) {K L : Nat} (x : α) (h : L ≠ K) : upd f K x L = f L := if_neg h
theorem BkP.push (h : BkP used w kb U N vs ws hv hw) {K : Nat} (hK : K < 17) (hus : used K = true) (hce : cont (eT K) = true) {l : Value} {e : Ending} {base n : Nat} {xs : List Value} (hl : w.ownsRow base (eT K) (sz K) l n xs) (hfree : ∀ g, l.ownBlock = some g → ¬ U g) {D : Nat → Prop} (hD : ∀ g, D g → U g) (hr : KeepRaw D w kb K (vs K) (ws K) (hv K) (hw K) l e w') :
    e = .returned (.tuple #[]) ∧ Is used w' kb (more U w w' l) (N + 1) ∧ Kept U w w' := by
  obtain ⟨he, u, hv', hw', r1, r2, r3, r4, r5, r6, r7⟩ := hr
  have hkU : Kept U w w' := r3.mono (fun x _ hx => by
    rcases hx with h1 | h1 | h1
    · rw [h1]; exact h.ukb
    · exact h.uhv K hK x h1
    · exact h.uhw K hK x h1)
  have hls : ∀ g, l.ownBlock = some g → g < w.heap.size := fun g hg => (own_blk hl hg).2
  -- a row of another type lies outside what was written
  have out : ∀ {base s m : Nat} {t : TypeId} {v : Value} {ys : List Value}, w.ownsRow base t s v m ys → t ≠ 44 → t ≠ sT K → ∀ g, v.ownBlock = some g → ¬ (g = kb ∨ (hv K).ownBlock = some g ∨ (hw K).ownBlock = some g) := by
    intro base s m t v ys ho ht1 ht2 g hg hx
    rcases hx with h1 | h1 | h1
    · subst h1; exact h.bk.not ho ht1 hg
    · exact own_apart ho (h.k K hK).hvs.2 ht2 hg h1
    · exact own_apart ho (h.k K hK).hws.2 ht2 hg h1
  have nocont : ∀ g, U g → (g = kb ∨ (hv K).ownBlock = some g ∨ (hw K).ownBlock = some g) → ∃ cs t fr, w.heap[g]? = some (.cells cs t fr) ∧ cont t = false := by
    intro g _ hx
    rcases hx with h1 | h1 | h1
    · obtain ⟨cs, c1, _⟩ := h.bk
      subst h1
      exact ⟨cs, _, _, c1, by decide⟩
    · rcases (h.k K hK).hvs.2.2 with ⟨e1, _⟩ | ⟨k, cap, cur, e1, _, e2, _⟩
      · rw [e1] at h1; cases h1
      · rw [e1] at h1; injection h1 with h1; subst h1; exact ⟨cur, _, _, e2, cont_sT K⟩
    · rcases (h.k K hK).hws.2.2 with ⟨e1, _⟩ | ⟨k, cap, cur, e1, _, e2, _⟩
      · rw [e1] at h1; cases h1
      · rw [e1] at h1; injection h1 with h1; subst h1; exact ⟨cur, _, _, e2, cont_sT K⟩
  refine ⟨he, ⟨upd vs K (vs K ++ [l]), upd ws K (ws K ++ [u]), upd hv K hv', upd hw K hw', r1, ?_, ?_, ?_, ?_, ?_, ?_, .inl h.ukb, ?_, ?_, ?_⟩, hkU⟩
  · intro L hL
    by_cases hLK : L = K
    · subst hLK; simp only [upd_same]; exact r2
    · simp only [upd_ne _ _ hLK]
      have hst : sT L ≠ sT K := fun e => hLK (sT_inj L hL K hK e)
      have a := h.k L hL
      exact ⟨⟨(r4 _ (by omega) (by omega)).trans a.hvs.1, own_kept a.hvs.2 r3 (out a.hvs.2 (sT_book L) hst)⟩, ⟨(r4 _ (by omega) (by omega)).trans a.hws.1, own_kept a.hws.2 r3 (out a.hws.2 (sT_book L) hst)⟩, (r4 _ (by omega) (by omega)).trans a.hgs, a.sep⟩
  · intro L hL
    by_cases hLK : L = K
    · subst hLK; simp only [upd_same, List.length_append, h.len L hL]; rfl
    · simp only [upd_ne _ _ hLK]; exact h.len L hL
  · intro L hL i v hvi
    have old : ∀ (i : Nat) v, (vs L)[i]? = some v → ∃ u, (ws L)[i]? = some u ∧ Same L (more U w w' l) w' v u := fun i v hvi => by
      obtain ⟨u', h1, h2⟩ := h.same L hL i v hvi
      exact ⟨u', h1, h2.kept r3 nocont (fun g hg => .inl hg)⟩
    by_cases hLK : L = K
    · subst hLK
      simp only [upd_same] at hvi ⊢
      rcases Nat.lt_or_ge i (vs L).length with hlt | hge
      · rw [List.getElem?_append_left hlt] at hvi
        obtain ⟨u', h1, h2⟩ := old i v hvi
        exact ⟨u', by rw [List.getElem?_append_left (by rw [h.len L hL]; exact hlt)]; exact h1, h2⟩
      · have hi : i < (vs L ++ [l]).length := (List.getElem?_eq_some_iff.1 hvi).1
        rw [List.length_append, List.length_singleton] at hi
        obtain rfl : i = (vs L).length := by omega
        rw [List.getElem?_append_right (Nat.le_refl _), Nat.sub_self] at hvi
        injection hvi with hvi
        subst hvi
        refine ⟨u, by rw [List.getElem?_append_right (by rw [h.len L hL]; exact Nat.le_refl _), h.len L hL, Nat.sub_self]; rfl, r7 _ (fun g hg => .inl (hD g hg)) (fun g hg => .inr (.inl hg)) (fun g h1 h2 => .inr (.inr ⟨h1, h2⟩))⟩
    · simp only [upd_ne _ _ hLK] at hvi ⊢
      exact old i v hvi
  · intro L hL
    by_cases hLK : L = K
    · subst hLK
      simp only [upd_same]
      have inU : ∀ (i : Nat) v, (vs L)[i]? = some v → ∀ g, v.ownBlock = some g → U g := fun i v hvi => by
        obtain ⟨u', _, _, _, _, _, _, _, _, h4, _⟩ := h.same L hL i v hvi
        exact h4
      have app : ∀ (i : Nat) v, (vs L ++ [l])[i]? = some v → (vs L)[i]? = some v ∨ (i = (vs L).length ∧ v = l) := fun i v hvi => by
        rcases Nat.lt_or_ge i (vs L).length with hlt | hge
        · rw [List.getElem?_append_left hlt] at hvi; exact .inl hvi
        · have hi : i < (vs L ++ [l]).length := (List.getElem?_eq_some_iff.1 hvi).1
          rw [List.length_append, List.length_singleton] at hi
          obtain rfl : i = (vs L).length := by omega
          rw [List.getElem?_append_right (Nat.le_refl _), Nat.sub_self] at hvi
          injection hvi with hvi; exact .inr ⟨rfl, hvi.symm⟩
      intro i j a b hij ha hb g hga hgb
      rcases app i a ha with h1 | ⟨h1, h2⟩
      · rcases app j b hb with h3 | ⟨h3, h4⟩
        · exact h.apart L hL i j a b hij h1 h3 g hga hgb
        · rw [h4] at hgb; exact hfree g hgb (inU i a h1 g hga)
      · rcases app j b hb with h3 | ⟨h3, h4⟩
        · rw [h2] at hga; exact hfree g hga (inU j b h3 g hgb)
        · exact hij (h1.trans h3.symm)
    · simp only [upd_ne _ _ hLK]; exact h.apart L hL
  · intro L hL
    have := h.few L hL
    by_cases hLK : L = K
    · subst hLK; simp only [upd_same, List.length_append, List.length_singleton]; omega
    · simp only [upd_ne _ _ hLK]; omega
  · intro L hL
    by_cases hLK : L = K
    · subst hLK; exact .inl hus
    · simp only [upd_ne _ _ hLK]; exact h.used L hL
  · intro L hL g hg
    by_cases hLK : L = K
    · subst hLK
      simp only [upd_same] at hg
      rcases r5 g hg with h1 | h1
      · exact .inl (h.uhv L hL g h1)
      · exact .inr (.inr ⟨h1, (own_blk r2.hvs.2 hg).2⟩)
    · simp only [upd_ne _ _ hLK] at hg; exact .inl (h.uhv L hL g hg)
  · intro L hL g hg
    by_cases hLK : L = K
    · subst hLK
      simp only [upd_same] at hg
      rcases r6 g hg with h1 | h1
      · exact .inl (h.uhw L hL g h1)
      · exact .inr (.inr ⟨h1, (own_blk r2.hws.2 hg).2⟩)
    · simp only [upd_ne _ _ hLK] at hg; exact .inl (h.uhw L hL g hg)
  · rintro g (h1 | h1 | h1)
    · exact Nat.lt_of_lt_of_le (h.ult g h1) r3.size
    · exact Nat.lt_of_lt_of_le (hls g h1) r3.size
    · exact h1.2
end
theorem keepRaw_of {D : Nat → Prop} {w w7 w8 W9 w9 : World} {kb K n : Nat} {vs ws xs ys : List Value} {hv hw hv' hw' l u : Value} (hb : BkC w kb 0 0) (hk : KW w kb K vs ws hv hw) (hK : K < 17) (hc : cont (eT K) = true) (hn : n ≤ 1099511627776)
    (P : Hd w7 kb (2 + 3 * K) (sT K) (vs ++ [l]) hv' ∧ BkC w7 kb 0 0 ∧ Kept (fun x => x = kb ∨ hv.ownBlock = some x) w w7 ∧ (∀ f', f' ≠ 2 + 3 * K → w7.cell? ⟨kb, f', none⟩ = w.cell? ⟨kb, f', none⟩) ∧ (∀ x, hv'.ownBlock = some x → hv.ownBlock = some x ∨ w.heap.size ≤ x))
    (hl : w.ownsRow 0 (eT K) (sz K) l n xs) (hb8 : Below w7.heap.size w7 w8) (hu : w8.ownsRow w7.heap.size (eT K) (sz K) u n ys) (hal9 : Below w8.heap.size w8 W9) (hk9 : Kept (fun k => hw.ownBlock = some k) W9 w9)
    (hown9 : w9.ownsRow 0 (sT K) 1 hw' (ws.length + 1) (ws ++ [u])) (hblk9 : ∀ x, hw'.ownBlock = some x → hw.ownBlock = some x ∨ W9.heap.size ≤ x)
    (hcan : ∀ U : Nat → Prop, (∀ g, D g → U g) → (∀ g, w.heap.size ≤ g → g < (w9.setCell ⟨kb, 3 + 3 * K, none⟩ hw').heap.size → U g) → Can K U (w9.setCell ⟨kb, 3 + 3 * K, none⟩ hw') n xs ys) :
    KeepRaw D w kb K vs ws hv hw l (.returned (.tuple #[])) (w9.setCell ⟨kb, 3 + 3 * K, none⟩ hw') := by
  obtain ⟨p1, p2, p3, p4, p5⟩ := P
  have hl7 : w7.ownsRow 0 (eT K) (sz K) l n xs := own_kept hl p3 (fun g hg he => by
    rcases he with he | he
    · subst he; exact hb.not hl (eT_book K) hg
    · exact own_apart hl hk.hvs.2 (Ne.symm (sT_eT K)) hg he)
  have hw7 : Hd w7 kb (3 + 3 * K) (sT K) ws hw := ⟨(p4 _ (by omega)).trans hk.hws.1, own_kept hk.hws.2 p3 (fun g hg he => by
    rcases he with he | he
    · subst he; exact hb.not hk.hws.2 (sT_book K) hg
    · exact hk.sep g he hg)⟩
  have hal7 : Below w7.heap.size w7 W9 := hb8.trans (hal9.mono hb8.size)
  obtain ⟨q1, q2, q3, q4, q5⟩ := Hd.push p2 hw7 (sT_book K) (by omega) (by omega) hal7 hk9 hown9 hblk9
  have hl10 := own_kept hl7 q3 (fun g hg he => by
    rcases he with he | he
    · subst he; exact p2.not hl7 (eT_book K) hg
    · exact own_apart hl7 hw7.2 (Ne.symm (sT_eT K)) hg he)
  have hv10 : Hd (w9.setCell ⟨kb, 3 + 3 * K, none⟩ hw') kb (2 + 3 * K) (sT K) (vs ++ [l]) hv' := ⟨(q4 _ (by omega)).trans p1.1, own_kept p1.2 q3 (fun g hg he => by
    rcases he with he | he
    · subst he; exact p2.not p1.2 (sT_book K) hg
    · rcases p5 g hg with h1 | h1
      · exact hk.sep g h1 he
      · have := (own_blk hk.hws.2 he).2; omega)⟩
  have k810 : Kept (fun x => x = kb ∨ hw.ownBlock = some x) w8 (w9.setCell ⟨kb, 3 + 3 * K, none⟩ hw') :=
    ((Kept.of_below (F := fun x => x = kb ∨ hw.ownBlock = some x) hal9).trans (hk9.mono (G := fun x => x = kb ∨ hw.ownBlock = some x) (fun x _ h => .inr h)) (fun x h => .inl h)).trans (Kept.set w9 kb _ hw') (fun x h => .inl (.inl h))
  have hu8 := own_zero hu
  have hu10 := own_kept hu8 k810 (fun g hg he => by
    rcases he with he | he
    · have := (own_blk hu hg).1; have := p2.lt; omega
    · have := (own_blk hu hg).1; have := (own_blk hw7.2 he).2; omega)
  refine ⟨rfl, u, hv', hw', q2, ⟨hv10, q1, ?_, ?_⟩, ?_, ?_, p5, ?_, ?_⟩
  · rw [q4 _ (by omega), p4 _ (by omega)]; exact hk.hgs
  · intro g h1 h2
    rcases p5 g h1 with a | a
    · rcases q5 g h2 with c | c
      · exact hk.sep g a c
      · have := (own_blk hk.hvs.2 a).2; have := p3.size; omega
    · rcases q5 g h2 with c | c
      · have := (own_blk hk.hws.2 c).2; omega
      · have := (own_blk p1.2 h1).2; omega
  · refine (p3.mono (G := fun x => x = kb ∨ hv.ownBlock = some x ∨ hw.ownBlock = some x) (fun x _ h => h.imp (fun h => h) .inl)).trans q3 (fun x h => .inl ?_)
    exact h.imp (fun h => h) .inr
  · intro f h1 h2
    rw [q4 f h2, p4 f h1]
  · intro g hg
    rcases q5 g hg with c | c
    · exact .inl c
    · exact .inr (Nat.le_trans p3.size c)
  · intro U hD h1 h2
    exact ⟨hc, n, xs, ys, hn, hl10, hu10, h1, fun g hg => h2 g (Nat.le_trans p3.size (own_blk hu hg).1) (own_blk hu10 hg).2, hcan U hD h2⟩
end Bk
end Go.Proofs.YtmeoafodcniliaaGreatDoor
