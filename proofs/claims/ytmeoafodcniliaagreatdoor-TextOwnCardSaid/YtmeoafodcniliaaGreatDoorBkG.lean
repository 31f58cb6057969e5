/- growing: what becomes of the lists -/
import Derived.Test.YtmeoafodcniliaaGreatDoorBkK
namespace Go.Proofs.YtmeoafodcniliaaGreatDoor
open Go.RowKit
set_option linter.unusedSimpArgs false
set_option linter.unusedVariables false
namespace Bk
/-- The kept lists show their marks, the grown ones theirs and T more. -/
def Grown (w : World) (K : Nat) (p id : Int) (vs gs : List Value) (T : Nat → Nat) : Prop :=
  ∀ (k : Nat) (v : Value), vs[k]? = some v → ∃ n, n ≤ 1099511627776 ∧ w.ownsRow 0 (eT K) (sz K) v n (marks K p (id + (k : Int) + 1) n) ∧
    ∀ g, gs[k]? = some g → w.ownsRow 0 (eT K) (sz K) g (n + T k) (marks K p (id + (k : Int) + 1) (n + T k))
/-- Lists of unlike numbers are apart. -/
structure Ap2 (vs gs : List Value) : Prop where
  vv : ∀ (i j : Nat) (u v : Value), i ≠ j → vs[i]? = some u → vs[j]? = some v → Sep u v
  vg : ∀ (i j : Nat) (u v : Value), i ≠ j → vs[i]? = some u → gs[j]? = some v → Sep u v
  gg : ∀ (i j : Nat) (u v : Value), i ≠ j → gs[i]? = some u → gs[j]? = some v → Sep u v
theorem get_set_cases {l : List Value} {i k : Nat} {x y : Value} (h : (l.set i x)[k]? = some y) : (k = i ∧ y = x) ∨ (k ≠ i ∧ l[k]? = some y) := by
  rw [List.getElem?_set] at h
  by_cases hk : i = k
  · subst hk
    rw [if_pos rfl] at h
    split at h
    · injection h with h; exact .inl ⟨rfl, h.symm⟩
    · cases h
  · rw [if_neg hk] at h; exact .inr ⟨Ne.symm hk, h⟩
/-- One list grown by one element: a new header in place of the old one. -/
theorem grow_next {w w2 : World} {kb K i m N C2 hgb : Nat} {b p id : Int} {vs gs : List Value} {hv v g v' : Value} {T : Nat → Nat} (hb : BkC w kb b p) (hk : KS w kb K vs gs hv (.slice (some ⟨hgb, 0, none⟩) N C2)) (hgr : Grown w K p id vs gs T) (hap : Ap2 vs gs) (hl : gs.length ≤ vs.length)
    (hvi : vs[i]? = some v) (hgi : gs[i]? = some g) {n : Nat} (hn : n ≤ 1099511627776) (hov : w.ownsRow 0 (eT K) (sz K) v n (marks K p (id + (i : Int) + 1) n)) (hog : w.ownsRow 0 (eT K) (sz K) g m (marks K p (id + (i : Int) + 1) m)) (hm : m = n + T i)
    (hK2 : Kept (fun k => g.ownBlock = some k) w w2) (hown : w2.ownsRow 0 (eT K) (sz K) v' (m + 1) (marks K p (id + (i : Int) + 1) (m + 1))) (hold : w2.ownsRow 0 (eT K) (sz K) g m (marks K p (id + (i : Int) + 1) m))
    (hblk : ∀ x, v'.ownBlock = some x → g.ownBlock = some x ∨ w.heap.size ≤ x) :
    KS (w2.setCell ⟨hgb, i, none⟩ v') kb K vs (gs.set i v') hv (.slice (some ⟨hgb, 0, none⟩) N C2) ∧ Grown (w2.setCell ⟨hgb, i, none⟩ v') K p id vs (gs.set i v') (fun k => if k = i then T i + 1 else T k) ∧ Ap2 vs (gs.set i v') ∧
      Kept (fun x => x = hgb ∨ g.ownBlock = some x) w (w2.setCell ⟨hgb, i, none⟩ v') ∧ ∀ x, InB (gs.set i v') x → InB gs x ∨ w.heap.size ≤ x := by
  have hil : i < gs.length := (List.getElem?_eq_some_iff.1 hgi).1
  have ne1 : ∀ x, g.ownBlock = some x → x ≠ hgb := fun x hx he => by
    subst he; exact own_apart hog hk.og (Ne.symm (sT_eT K)) hx rfl
  have ne2 : ∀ x, g.ownBlock = some x → x ≠ kb := fun x hx he => by subst he; exact hb.not hog (eT_book K) hx
  have ne3 : ∀ x, g.ownBlock = some x → hv.ownBlock ≠ some x := fun x hx he => own_apart hog hk.ov (Ne.symm (sT_eT K)) hx he
  have hkb : hgb ≠ kb := fun he => by subst he; exact hb.not hk.og (sT_book K) rfl
  have hgl : hgb < w.heap.size := (own_blk hk.og rfl).2
  have KS2 : KS w2 kb K vs gs hv (.slice (some ⟨hgb, 0, none⟩) N C2) := hk.kept hb hK2 (fun h => ne2 _ h rfl) (fun x hx he => ne3 x he hx) (fun x hx he => ne1 x he (by injection hx with hx; exact hx.symm))
  have K3 : Kept (fun x => x = hgb ∨ g.ownBlock = some x) w (w2.setCell ⟨hgb, i, none⟩ v') :=
    (hK2.mono (G := fun x => x = hgb ∨ g.ownBlock = some x) (fun x _ h => .inr h)).trans (Kept.set w2 hgb i v') (fun x h => .inl (.inl h))
  have KS3 := Kept.set w2 hgb i v'
  have inb : ∀ u ∈ gs.set i v', u = v' ∨ u ∈ gs := fun u hu => by
    obtain ⟨k, hk'⟩ := List.mem_iff_getElem?.1 hu
    rcases get_set_cases hk' with ⟨_, h⟩ | ⟨_, h⟩
    · exact .inl h
    · exact .inr (List.mem_of_getElem? h)
  have ltg : ∀ u ∈ gs, ∀ x, u.ownBlock = some x → x < w.heap.size := fun u hu x hx => by
    obtain ⟨k, hk'⟩ := List.mem_iff_getElem?.1 hu
    have hkl : k < vs.length := Nat.lt_of_lt_of_le (List.getElem?_eq_some_iff.1 hk').1 hl
    obtain ⟨n', _, _, h3⟩ := hgr k _ (List.getElem?_eq_getElem hkl)
    exact (own_blk (h3 u hk') hx).2
  have ltv : ∀ u ∈ vs, ∀ x, u.ownBlock = some x → x < w.heap.size := fun u hu x hx => by
    obtain ⟨k, hk'⟩ := List.mem_iff_getElem?.1 hu
    obtain ⟨n', _, h2, _⟩ := hgr k _ hk'
    exact (own_blk h2 hx).2
  have sepv : ∀ (k : Nat) (u : Value), k ≠ i → vs[k]? = some u → Sep u v' := fun k u hki hu x hx hx' => by
    rcases hblk x hx' with h | h
    · exact hap.vg k i u g hki hu hgi x hx h
    · have := ltv u (List.mem_of_getElem? hu) x hx; omega
  have sepg : ∀ (k : Nat) (u : Value), k ≠ i → gs[k]? = some u → Sep u v' := fun k u hki hu x hx hx' => by
    rcases hblk x hx' with h | h
    · exact hap.gg k i u g hki hu hgi x hx h
    · have := ltg u (List.mem_of_getElem? hu) x hx; omega
  refine ⟨⟨?_, ?_, ?_, ?_, hk.sep⟩, ?_, ⟨hap.vv, ?_, ?_⟩, K3, ?_⟩
  · exact (KS3.cell (Nat.lt_of_lt_of_le hb.lt hK2.size) (fun h => hkb h.symm)).trans KS2.cv
  · exact (KS3.cell (Nat.lt_of_lt_of_le hb.lt hK2.size) (fun h => hkb h.symm)).trans KS2.cg
  · exact own_kept KS2.ov KS3 (fun x hx he => hk.sep x hx (by rw [he]; rfl))
  · have := own_set KS2.og (j := i) hil v'
    rwa [show (gs.set i v').length = gs.length by simp]
  · intro k u hu
    by_cases hki : k = i
    · subst hki
      rw [hvi] at hu; injection hu with hu; subst hu
      refine ⟨n, hn, ?_, ?_⟩
      · have hov2 : w2.ownsRow 0 (eT K) (sz K) v n (marks K p (id + (k : Int) + 1) n) := by
          cases hbv : v.ownBlock with
          | none => exact own_kept hov hK2 (fun x hx => by rw [hbv] at hx; cases hx)
          | some x =>
            by_cases hx : g.ownBlock = some x
            · exact own_prefix hov hog hold hbv hx (by omega)
            · exact own_kept hov hK2 (fun y hy => by rw [hbv] at hy; injection hy with hy; subst hy; exact hx)
        exact own_kept hov2 KS3 (fun x hx he => by subst he; exact own_apart hov hk.og (Ne.symm (sT_eT K)) hx rfl)
      · intro g2 hg2
        rcases get_set_cases hg2 with ⟨_, h⟩ | ⟨h, _⟩
        · subst h
          dsimp only
          rw [if_pos rfl, ← Nat.add_assoc, ← hm]
          exact own_kept hown KS3 (fun x hx he => by subst he; exact own_apart hown KS2.og (Ne.symm (sT_eT K)) hx rfl)
        · exact absurd rfl h
    · obtain ⟨n', h1, h2, h3⟩ := hgr k u hu
      refine ⟨n', h1, ?_, ?_⟩
      · exact own_kept h2 K3 (fun x hx he => by
          rcases he with he | he
          · subst he; exact own_apart h2 hk.og (Ne.symm (sT_eT K)) hx rfl
          · exact hap.vg k i u g hki hu hgi x hx he)
      · intro g2 hg2
        rcases get_set_cases hg2 with ⟨h, _⟩ | ⟨_, h⟩
        · exact absurd h hki
        · dsimp only
          rw [if_neg hki]
          exact own_kept (h3 g2 h) K3 (fun x hx he => by
            rcases he with he | he
            · subst he; exact own_apart (h3 g2 h) hk.og (Ne.symm (sT_eT K)) hx rfl
            · exact hap.gg k i g2 g hki h hgi x hx he)
  · intro k j u u' hkj hu hu'
    rcases get_set_cases hu' with ⟨h1, h2⟩ | ⟨_, h⟩
    · subst h1; subst h2; exact sepv k u hkj hu
    · exact hap.vg k j u u' hkj hu h
  · intro k j u u' hkj hu hu'
    rcases get_set_cases hu with ⟨h1, h2⟩ | ⟨h1, h2⟩
    · subst h1; subst h2
      rcases get_set_cases hu' with ⟨h3, _⟩ | ⟨h3, h4⟩
      · exact absurd h3.symm hkj
      · exact (sepg j u' h3 h4).symm
    · rcases get_set_cases hu' with ⟨h3, h4⟩ | ⟨_, h4⟩
      · subst h3; subst h4; exact sepg k u hkj h2
      · exact hap.gg k j u u' hkj h2 h4
  · rintro x ⟨u, hu, hx⟩
    rcases inb u hu with h | h
    · subst h
      rcases hblk x hx with h | h
      · exact .inl ⟨g, List.mem_of_getElem? hgi, h⟩
      · exact .inr h
    · exact .inl ⟨u, h, hx⟩
/-- A list is laid beside: the grown lists begin with the kept one itself. -/
theorem grow_start {w w2 : World} {kb K i : Nat} {b p id : Int} {vs gs : List Value} {hv hg hg' v : Value} {T : Nat → Nat} (hb : BkC w kb b p) (hk : KS w kb K vs gs hv hg) (hgr : Grown w K p id vs gs T) (hap : Ap2 vs gs)
    (hgl : gs.length = i) (hKK : K < 17) (hvi : vs[i]? = some v) (hT : T i = 0)
    (hK2 : Kept (fun k => hg.ownBlock = some k) w w2) (hown : w2.ownsRow 0 (sT K) 1 hg' (i + 1) (gs ++ [v])) (hblk : ∀ x, hg'.ownBlock = some x → hg.ownBlock = some x ∨ w.heap.size ≤ x) :
    KS (w2.setCell ⟨kb, 4 + 3 * K, none⟩ hg') kb K vs (gs ++ [v]) hv hg' ∧ Grown (w2.setCell ⟨kb, 4 + 3 * K, none⟩ hg') K p id vs (gs ++ [v]) T ∧ Ap2 vs (gs ++ [v]) ∧ BkC (w2.setCell ⟨kb, 4 + 3 * K, none⟩ hg') kb b p ∧
      Kept (fun x => x = kb ∨ hg.ownBlock = some x) w (w2.setCell ⟨kb, 4 + 3 * K, none⟩ hg') ∧
      ∀ f, f ≠ 4 + 3 * K → (w2.setCell ⟨kb, 4 + 3 * K, none⟩ hg').cell? ⟨kb, f, none⟩ = w.cell? ⟨kb, f, none⟩ := by
  have ne1 : ¬ hg.ownBlock = some kb := hb.not hk.og (sT_book K)
  have hb2 := hb.kept hK2 ne1
  have KS3 := Kept.set w2 kb (4 + 3 * K) hg'
  have K3 : Kept (fun x => x = kb ∨ hg.ownBlock = some x) w (w2.setCell ⟨kb, 4 + 3 * K, none⟩ hg') :=
    (hK2.mono (G := fun x => x = kb ∨ hg.ownBlock = some x) (fun x _ h => .inr h)).trans KS3 (fun x h => .inl (.inl h))
  have hov2 := own_kept hk.ov hK2 (fun x hx he => hk.sep x hx he)
  have hgl2 : (gs ++ [v]).length = i + 1 := by rw [List.length_append, hgl]; rfl
  have cells : ∀ f, f ≠ 4 + 3 * K → (w2.setCell ⟨kb, 4 + 3 * K, none⟩ hg').cell? ⟨kb, f, none⟩ = w.cell? ⟨kb, f, none⟩ := fun f hf => by
    rw [World.cell?_setCell_other _ _ _ _ (by intro h; injection h with _ h _; omega)]
    exact hK2.cell hb.lt ne1
  obtain ⟨cs, c1, c2, c3, c4⟩ := hb2
  have rowkept : ∀ {u : Value} {n : Nat} {xs : List Value}, w.ownsRow 0 (eT K) (sz K) u n xs → (w2.setCell ⟨kb, 4 + 3 * K, none⟩ hg').ownsRow 0 (eT K) (sz K) u n xs := fun {u n xs} h => own_kept h K3 (fun x hx he => by
    rcases he with he | he
    · subst he; exact hb.not h (eT_book K) hx
    · exact own_apart h hk.og (Ne.symm (sT_eT K)) hx he)
  have app : ∀ (k : Nat) (u : Value), (gs ++ [v])[k]? = some u → gs[k]? = some u ∨ (k = i ∧ u = v) := fun k u hu => by
    rcases Nat.lt_or_ge k gs.length with h | h
    · rw [List.getElem?_append_left h] at hu; exact .inl hu
    · have hk' : k < (gs ++ [v]).length := (List.getElem?_eq_some_iff.1 hu).1
      rw [hgl2] at hk'
      obtain rfl : k = i := by omega
      rw [List.getElem?_append_right h, hgl, Nat.sub_self] at hu
      injection hu with hu; exact .inr ⟨rfl, hu.symm⟩
  refine ⟨⟨?_, ?_, ?_, ?_, ?_⟩, ?_, ⟨hap.vv, ?_, ?_⟩, ?_, K3, cells⟩
  · rw [cells _ (by omega)]; exact hk.cv
  · rw [cell_heap (heap_set c1 _ _)]
    rw [Array.getElem?_setIfInBounds_self_of_lt (by omega)]
  · exact own_kept hov2 KS3 (fun x hx he => by subst he; exact (BkC.not ⟨cs, c1, c2, c3, c4⟩ hov2 (sT_book K)) hx)
  · rw [hgl2]
    exact own_kept hown KS3 (fun x hx he => by subst he; exact (BkC.not ⟨cs, c1, c2, c3, c4⟩ hown (sT_book K)) hx)
  · intro x hx hx'
    rcases hblk x hx' with h | h
    · exact hk.sep x hx h
    · have := (own_blk hk.ov hx).2; omega
  · intro k u hu
    obtain ⟨n, h1, h2, h3⟩ := hgr k u hu
    refine ⟨n, h1, rowkept h2, fun g hg => ?_⟩
    rcases app k g hg with h | ⟨h, h'⟩
    · exact rowkept (h3 g h)
    · subst h; subst h'
      rw [hvi] at hu; injection hu with hu; subst hu
      rw [hT, Nat.add_zero]
      exact rowkept h2
  · intro k j u u' hkj hu hu'
    rcases app j u' hu' with h | ⟨h, h'⟩
    · exact hap.vg k j u u' hkj hu h
    · rw [h']; exact hap.vv k i u v (fun e => hkj (by rw [e, h])) hu hvi
  · intro k j u u' hkj hu hu'
    rcases app k u hu with h | ⟨h, h'⟩
    · rcases app j u' hu' with h2 | ⟨h2, h2'⟩
      · exact hap.gg k j u u' hkj h h2
      · rw [h2']; exact (hap.vg i k v u (fun e => hkj (by rw [← e, h2])) hvi h).symm
    · rcases app j u' hu' with h2 | ⟨h2, _⟩
      · rw [h']; exact hap.vg i j v u' (fun e => hkj (by rw [h, e])) hvi h2
      · exact absurd (h.trans h2.symm) hkj
  · refine ⟨_, heap_set c1 _ _, by simpa using c2, ?_, ?_⟩
    · rw [Array.getElem?_setIfInBounds_ne (by omega)]; exact c3
    · rw [Array.getElem?_setIfInBounds_ne (by omega)]; exact c4
/-- What holds when i lists of this turn have been grown; l of them are laid beside. -/
structure GrowInv (kb K : Nat) (b p id : Int) (vs gs : List Value) (hv hg : Value) (t l i : Nat) (w wr : World) (hgi : Value) (gsi : List Value) : Prop where
  bk : BkC wr kb b p
  ks : KS wr kb K vs gsi hv hgi
  len : gsi.length = l
  gr : Grown wr K p id vs gsi (fun k => if k < i then t + 1 else t)
  ap : Ap2 vs gsi
  kept : Kept (fun x => x = kb ∨ hg.ownBlock = some x ∨ InB gs x ∨ InB vs x) w wr
  blk : ∀ x, InB gsi x → InB gs x ∨ InB vs x ∨ w.heap.size ≤ x
  hdr : ∀ x, hgi.ownBlock = some x → hg.ownBlock = some x ∨ w.heap.size ≤ x
  cells : ∀ f, f ≠ 4 + 3 * K → wr.cell? ⟨kb, f, none⟩ = w.cell? ⟨kb, f, none⟩
/-- How many lists are laid beside in turn t, when i are grown. -/
def laidN (t i N : Nat) : Nat := if t = 0 then i else N
theorem GrowInv.start {kb K : Nat} {b p id : Int} {vs gs : List Value} {hv hg : Value} {t : Nat} {w : World} (hb : BkC w kb b p) (hk : KS w kb K vs gs hv hg) (hgl : gs.length = laidN t 0 vs.length) (hgr : Grown w K p id vs gs (fun _ => t)) (hap : Ap2 vs gs) :
    GrowInv kb K b p id vs gs hv hg t (laidN t 0 vs.length) 0 w w hg gs :=
  ⟨hb, hk, hgl, by simpa using hgr, hap, Kept.refl _ _, fun x h => .inl h, fun x h => .inl h, fun _ _ => rfl⟩
/-- The lists of a kind, grown by one turn. -/
def GrowSaid (kb K : Nat) (b p id : Int) (vs gs : List Value) (hv hg : Value) (t : Nat) (w : World) (en : Ending) (w' : World) : Prop :=
  en = .returned (.int .i64 (id + vs.length)) ∧ ∃ hg' gs', GrowInv kb K b p id vs gs hv hg t vs.length vs.length w w' hg' gs'
theorem GrowInv.at_ {kb K : Nat} {b p id : Int} {vs gs : List Value} {hv hg : Value} {t l i : Nat} {w wr : World} {hgi : Value} {gsi : List Value} (h : GrowInv kb K b p id vs gs hv hg t l i w wr hgi gsi) (hil : i < l) (hi : i < vs.length) :
    ∃ v g n, vs[i]? = some v ∧ gsi[i]? = some g ∧ n ≤ 1099511627776 ∧ wr.ownsRow 0 (eT K) (sz K) v n (marks K p (id + (i : Int) + 1) n) ∧ wr.ownsRow 0 (eT K) (sz K) g (n + t) (marks K p (id + (i : Int) + 1) (n + t)) := by
  have hl := h.len
  have hv' : vs[i]? = some vs[i] := List.getElem?_eq_getElem _
  have hg' : gsi[i]? = some (gsi[i]'(by omega)) := List.getElem?_eq_getElem _
  obtain ⟨n, h1, h2, h3⟩ := h.gr i _ hv'
  have h4 := h3 _ hg'
  dsimp only at h4
  rw [if_neg (Nat.lt_irrefl i)] at h4
  exact ⟨_, _, n, hv', hg', h1, h2, h4⟩
theorem GrowInv.step {w W w5 W5 w2 : World} {kb K i m n N C2 hgb t l : Nat} {b p id : Int} {vs gs gsi us : List Value} {hv hg v g v' : Value} (h : GrowInv kb K b p id vs gs hv hg t l i w W (.slice (some ⟨hgb, 0, none⟩) N C2) gsi) (hl : l ≤ vs.length)
    (hvi : vs[i]? = some v) (hgi : gsi[i]? = some g) (hn : n ≤ 1099511627776) (hov : W.ownsRow 0 (eT K) (sz K) v n (marks K p (id + (i : Int) + 1) n)) (hog : W.ownsRow 0 (eT K) (sz K) g m (marks K p (id + (i : Int) + 1) m)) (hm : m = n + t)
    (hb5 : Below W.heap.size W w5) (hal : Below w5.heap.size w5 W5) (hK2 : Kept (fun k => g.ownBlock = some k) W5 w2) (hus : Bk.mk K p (id + (i : Int) + 1) m = us) (hown : w2.ownsRow 0 (eT K) (sz K) v' (m + 1) (marks K p (id + (i : Int) + 1) m ++ us)) (hold : w2.ownsRow 0 (eT K) (sz K) g m (marks K p (id + (i : Int) + 1) m))
    (hblk : ∀ x, v'.ownBlock = some x → g.ownBlock = some x ∨ W5.heap.size ≤ x) :
    GrowInv kb K b p id vs gs hv hg t l (i + 1) w (w2.setCell ⟨hgb, i, none⟩ v') (.slice (some ⟨hgb, 0, none⟩) N C2) (gsi.set i v') := by
  subst hus
  rw [← marks_succ] at hown
  have hb1 : Below W.heap.size W W5 := hb5.trans (hal.mono hb5.size)
  have hK : Kept (fun k => g.ownBlock = some k) W w2 := (Kept.of_below hb1).trans hK2 (fun x h => .inl h)
  obtain ⟨h1, h2, h3, h4, h5⟩ := grow_next h.bk h.ks h.gr h.ap (by rw [h.len]; exact hl) hvi hgi hn hov hog (by rw [if_neg (Nat.lt_irrefl i)]; exact hm) hK hown hold
    (fun x hx => (hblk x hx).imp (fun h => h) (fun h => Nat.le_trans hb1.size h))
  have hgb' : hgb ≠ kb := fun he => by subst he; exact h.bk.not h.ks.og (sT_book K) rfl
  have hgk : ¬ g.ownBlock = some kb := fun he => h.bk.not hog (eT_book K) he
  have hgI : ∀ x, g.ownBlock = some x → InB gsi x := fun x hx => ⟨g, List.mem_of_getElem? hgi, hx⟩
  refine ⟨h.bk.kept h4 (fun he => he.elim (fun he => hgb' he.symm) (fun he => hgk he)), h1, by rw [List.length_set]; exact h.len, ?_, h3, h.kept.trans h4 ?_, ?_, h.hdr, ?_⟩
  · intro k u hu
    obtain ⟨n', a1, a2, a3⟩ := h2 k u hu
    refine ⟨n', a1, a2, fun g' hg' => ?_⟩
    have := a3 g' hg'
    dsimp only at this ⊢
    by_cases hk : k = i
    · subst hk
      rw [if_pos rfl, if_neg (Nat.lt_irrefl k)] at this
      rw [if_pos (by omega)]; exact this
    · rw [if_neg hk] at this
      by_cases hlt : k < i
      · rw [if_pos hlt] at this; rw [if_pos (by omega)]; exact this
      · rw [if_neg hlt] at this; rw [if_neg (by omega)]; exact this
  · rintro x (he | he)
    · rcases h.hdr x (by rw [he]; rfl) with h' | h'
      · exact .inl (.inr (.inl h'))
      · exact .inr h'
    · rcases h.blk x (hgI x he) with h' | h' | h'
      · exact .inl (.inr (.inr (.inl h')))
      · exact .inl (.inr (.inr (.inr h')))
      · exact .inr h'
  · intro x hx
    rcases h5 x hx with h' | h'
    · exact h.blk x h'
    · exact .inr (.inr (Nat.le_trans h.kept.size h'))
  · intro f hf
    rw [← h.cells f hf]
    exact h4.cell h.bk.lt (fun he => he.elim (fun he => hgb' he.symm) (fun he => hgk he))
theorem GrowInv.begin_ {w W W5 w2 : World} {kb K i t : Nat} {b p id : Int} {vs gs gsi : List Value} {hv hg hgi v hg' : Value} (h : GrowInv kb K b p id vs gs hv hg t i i w W hgi gsi) (ht : t = 0) (hKK : K < 17)
    (hvi : vs[i]? = some v) (hal : Below W.heap.size W W5) (hK2 : Kept (fun k => hgi.ownBlock = some k) W5 w2) (hown : w2.ownsRow 0 (sT K) 1 hg' (i + 1) (gsi ++ [v])) (hblk : ∀ x, hg'.ownBlock = some x → hgi.ownBlock = some x ∨ W5.heap.size ≤ x) :
    GrowInv kb K b p id vs gs hv hg t (i + 1) i w (w2.setCell ⟨kb, 4 + 3 * K, none⟩ hg') hg' (gsi ++ [v]) := by
  have hK : Kept (fun k => hgi.ownBlock = some k) W w2 := (Kept.of_below hal).trans hK2 (fun x h => .inl h)
  obtain ⟨h1, h2, h3, h4, h5, h6⟩ := grow_start h.bk h.ks h.gr h.ap h.len hKK hvi (by rw [if_neg (Nat.lt_irrefl i)]; exact ht) hK hown (fun x hx => (hblk x hx).imp (fun h => h) (fun h => Nat.le_trans hal.size h))
  refine ⟨h4, h1, by rw [List.length_append, h.len]; rfl, h2, h3, h.kept.trans h5 ?_, ?_, ?_, ?_⟩
  · rintro x (he | he)
    · exact .inl (.inl he)
    · rcases h.hdr x he with h' | h'
      · exact .inl (.inr (.inl h'))
      · exact .inr h'
  · rintro x ⟨u, hu, hx⟩
    rcases List.mem_append.1 hu with h' | h'
    · exact h.blk x ⟨u, h', hx⟩
    · simp at h'; subst h'
      exact .inr (.inl ⟨u, List.mem_of_getElem? hvi, hx⟩)
  · intro x hx
    rcases hblk x hx with h' | h'
    · exact h.hdr x h'
    · exact .inr (Nat.le_trans h.kept.size (Nat.le_trans hal.size h'))
  · intro f hf
    rw [h6 f hf]; exact h.cells f hf
theorem cell_set_off (w : World) (k f g : Nat) (u : Value) (h : f ≠ g) : (w.setCell ⟨k, g, none⟩ u).cell? ⟨k, f, none⟩ = w.cell? ⟨k, f, none⟩ := World.cell?_setCell_other _ _ _ _ (fun e => by injection e with _ e _; exact h e.symm)
theorem GrowInv.drew {kb K : Nat} {b p id : Int} {vs gs : List Value} {hv hg : Value} {t l i : Nat} {w wr : World} {hgi : Value} {gsi : List Value} (h : GrowInv kb K b p id vs gs hv hg t l i w wr hgi gsi) : GrowInv kb K b p id vs gs hv hg t l i w wr.drew hgi gsi :=
  ⟨h.bk, ⟨h.ks.cv, h.ks.cg, h.ks.ov, h.ks.og, h.ks.sep⟩, h.len, h.gr, h.ap, h.kept.trans (Kept.drewN (fun _ => False) wr 1) (fun _ h => h.elim), h.blk, h.hdr, h.cells⟩
end Bk
end Go.Proofs.YtmeoafodcniliaaGreatDoor
