/- all kinds of the book: what is written, what is grown, told as states -/
import Derived.Test.YtmeoafodcniliaaGreatDoorBkB
namespace Go.Proofs.YtmeoafodcniliaaGreatDoor
open Go.RowKit
set_option linter.unusedSimpArgs false
set_option linter.unusedVariables false
namespace Bk
/-- The number ahead of a kind's lists. -/
def idN (vs : Nat → List Value) : Nat → Nat
  | 0 => 0
  | K + 1 => idN vs K + (vs K).length
theorem eT_inj : ∀ K, K < 17 → ∀ L, L < 17 → eT K = eT L → K = L := by decide
theorem laidN_le (t i N : Nat) (h : i ≤ N) : laidN t i N ≤ N := by unfold laidN; split <;> omega
def UsedOK (used : Nat → Bool) : Prop := ∀ K, K < 17 → used K = true → cont (eT K) = true
theorem idN_le {vs : Nat → List Value} {N : Nat} (h : ∀ K, K < 17 → (vs K).length ≤ N) : ∀ K, K ≤ 17 → idN vs K ≤ K * N
  | 0, _ => Nat.zero_le _
  | K + 1, hK => by
    have := idN_le h K (by omega)
    have := h K (by omega)
    rw [Nat.succ_mul]; show idN vs K + (vs K).length ≤ _; omega
/-- The lists while they are written over: those of the kinds below k show their marks. -/
structure WS (used : Nat → Bool) (U : Nat → Prop) (w0 w : World) (kb : Nat) (p : Int) (N : Nat) (vs : Nat → List Value) (hv hg : Nat → Value) (k : Nat) : Prop where
  bk : BkC w kb 0 p
  ks : ∀ K, K < 17 → KS w kb K (vs K) [] (hv K) (hg K)
  rows : ∀ K, K < 17 → Rows w K (vs K) (fun i n xs => K < k → xs = marks K p ((idN vs K : Int) + (i : Int) + 1) n)
  apart : ∀ K, K < 17 → Apart (vs K)
  few : ∀ K, K < 17 → (vs K).length ≤ N
  used : ∀ K, K < 17 → used K = true ∨ vs K = []
  ukb : U kb
  inU : ∀ K, K < 17 → ∀ x, InB (vs K) x → U x
  hgU : ∀ K, K < 17 → ∀ x, (hg K).ownBlock = some x → U x
  kept : Kept U w0 w
section
variable {used : Nat → Bool} {U : Nat → Prop} {w0 w w' : World} {kb N k : Nat} {p : Int} {vs gs ws : Nat → List Value} {hv hg hw : Nat → Value}
theorem Rows.notEmpty {K : Nat} {l : List Value} (h : l = []) (x : Nat) : ¬ InB l x := by
  subst h; rintro ⟨v, hv, _⟩; cases hv
/-- A row whose type is no kept type, or another kind's, lies in no block of a kind's lists. -/
theorem not_inb {K L : Nat} {P : Nat → Nat → List Value → Prop} (hU : UsedOK used) (hK : K < 17) (hu : used K = true ∨ vs K = []) (hr : Rows w K (vs K) P) {base s n : Nat} {t : TypeId} {v : Value} {xs : List Value} (ho : w.ownsRow base t s v n xs) (ht : cont (eT K) = true → t ≠ eT K) {x : Nat} (hx : v.ownBlock = some x) : ¬ InB (vs K) x := by
  rcases hu with h | h
  · exact hr.not ho (ht (hU K hK h)) hx
  · exact Rows.notEmpty (K := K) h x
theorem WS.step (hU : UsedOK used) (h : WS used U w0 w kb p N vs hv hg k) (hk : k < 17) (hK : Kept (InB (vs k)) w w') (hr : Rows w' k (vs k) (fun i n xs => xs = marks k p ((idN vs k : Int) + (i : Int) + 1) n)) : WS used U w0 w' kb p N vs hv hg (k + 1) := by
  have nkb : ¬ InB (vs k) kb := (h.rows k hk).notB h.bk
  have nhd : ∀ L, L < 17 → ∀ {v : Value} {n : Nat} {xs : List Value}, w.ownsRow 0 (sT L) 1 v n xs → ∀ g, v.ownBlock = some g → ¬ InB (vs k) g := fun L hL {v n xs} ho g hg =>
    not_inb (L := L) hU hk (h.used k hk) (h.rows k hk) ho (fun hc => cont_eT_sT k L hc) hg
  refine ⟨h.bk.kept hK nkb, fun L hL => (h.ks L hL).kept h.bk hK nkb (nhd L hL (h.ks L hL).ov) (nhd L hL (h.ks L hL).og), fun L hL => ?_, h.apart, h.few, h.used, h.ukb, h.inU, h.hgU, h.kept.trans hK (fun x hx => .inl (h.inU k hk x hx))⟩
  by_cases hLk : L = k
  · subst hLk
    exact hr.weak (fun i n xs hx _ => hx)
  · refine ((h.rows L hL).kept hK (fun v hv g hg => ?_)).weak (fun i n xs hx hlt => hx (by omega))
    obtain ⟨i, hi⟩ := List.mem_iff_getElem?.1 hv
    obtain ⟨n, xs, _, ho, _⟩ := h.rows L hL i v hi
    exact not_inb (L := L) hU hk (h.used k hk) (h.rows k hk) ho (fun _ he => hLk (eT_inj L hL k hk he)) hg
/-- At the beginning of a pass. -/
theorem WS.zero (h : WS used U w0 w kb p N vs hv hg k) : WS used U w0 w kb p N vs hv hg 0 :=
  ⟨h.bk, h.ks, fun K hK => (h.rows K hK).weak (fun i n xs _ hlt => by omega), h.apart, h.few, h.used, h.ukb, h.inU, h.hgU, h.kept⟩
theorem WS.below (h : WS used U w0 w kb p N vs hv hg k) (hb : Below w.heap.size w w') : WS used U w0 w' kb p N vs hv hg k :=
  ⟨h.bk.below hb, fun K hK => (h.ks K hK).below h.bk hb, fun K hK => (h.rows K hK).below hb, h.apart, h.few, h.used, h.ukb, h.inU, h.hgU, h.kept.trans (Kept.of_below (F := U) hb) (fun x h => .inl h)⟩
/-- The other pass. -/
theorem WS.pass (h : WS used U w0 w kb p N vs hv hg k) (q : Int) : WS used U w0 (w.setCell ⟨kb, 1, none⟩ (.int .i64 q)) kb q N vs hv hg 0 := by
  have hK := Kept.set w kb 1 (.int .i64 q)
  have nrow : ∀ {base s n : Nat} {t : TypeId} {v : Value} {xs : List Value}, w.ownsRow base t s v n xs → t ≠ 44 → ∀ g, v.ownBlock = some g → ¬ g = kb := fun ho ht g hg he => by subst he; exact h.bk.not ho ht hg
  refine ⟨?_, fun K hK' => ?_, fun K hK' => ?_, h.apart, h.few, h.used, h.ukb, h.inU, h.hgU, h.kept.trans hK (fun x hx => .inl (by rw [hx]; exact h.ukb))⟩
  · obtain ⟨cs, c1, c2, c3, c4⟩ := h.bk
    refine ⟨_, heap_set c1 _ _, by simpa using c2, ?_, ?_⟩
    · rw [Array.getElem?_setIfInBounds_ne (by omega)]; exact c3
    · rw [Array.getElem?_setIfInBounds_self_of_lt (by omega)]
  · have a := h.ks K hK'
    exact ⟨by rw [cell_set_off _ _ _ _ _ (by omega)]; exact a.cv, by rw [cell_set_off _ _ _ _ _ (by omega)]; exact a.cg, own_kept a.ov hK (nrow a.ov (sT_book K)), own_kept a.og hK (nrow a.og (sT_book K)), a.sep⟩
  · refine ((h.rows K hK').kept hK (fun v hv g hg => ?_)).weak (fun i n xs _ hlt => by omega)
    obtain ⟨i, hi⟩ := List.mem_iff_getElem?.1 hv
    obtain ⟨n, xs, _, ho, _⟩ := h.rows K hK' i v hi
    exact nrow ho (eT_book K) g hg
theorem shows_of {K : Nat} {id : Int} {l : List Value} (h : Rows w K l (fun i n xs => xs = marks K p (id + (i : Int) + 1) n)) : Shows w K p id l := fun i v hv => by
  obtain ⟨n, xs, h1, h2, h3⟩ := h i v hv
  obtain ⟨A, c, rfl, h4, h5⟩ := own_hdr h2
  subst h3
  exact ⟨n, by omega, A, c, rfl, h4, h5, own_rd h2⟩
theorem WS.shows (h : WS used U w0 w kb p N vs hv hg 17) {K : Nat} (hK : K < 17) : Shows w K p (idN vs K : Int) (vs K) :=
  shows_of ((h.rows K hK).weak (fun i n xs hx => hx hK))
theorem shows_nil {K : Nat} {id : Int} : Shows w K p id [] := fun i v hv => by simp at hv
/-- The lists while they are grown: in turn t the kinds below k have had theirs. -/
structure GSP (used : Nat → Bool) (U : Nat → Prop) (w0 w : World) (kb : Nat) (p : Int) (N : Nat) (vs gs : Nat → List Value) (hv hg : Nat → Value) (t k : Nat) : Prop where
  bk : BkC w kb 0 p
  ks : ∀ K, K < 17 → KS w kb K (vs K) (gs K) (hv K) (hg K)
  len : ∀ K, K < 17 → (gs K).length = laidN (if K < k then t + 1 else t) 0 (vs K).length
  gr : ∀ K, K < 17 → Grown w K p (idN vs K : Int) (vs K) (gs K) (fun _ => if K < k then t + 1 else t)
  ap : ∀ K, K < 17 → Ap2 (vs K) (gs K)
  few : ∀ K, K < 17 → (vs K).length ≤ N
  used : ∀ K, K < 17 → used K = true ∨ vs K = []
  ukb : U kb
  inU : ∀ K, K < 17 → ∀ x, InB (vs K) x → U x
  ing : ∀ K, K < 17 → ∀ x, InB (gs K) x → U x ∨ w0.heap.size ≤ x
  hgU : ∀ K, K < 17 → ∀ x, (hg K).ownBlock = some x → U x ∨ w0.heap.size ≤ x
  kept : Kept U w0 w
def GS (used : Nat → Bool) (U : Nat → Prop) (w0 w : World) (kb : Nat) (p : Int) (N : Nat) (vs : Nat → List Value) (hv : Nat → Value) (t k : Nat) : Prop := ∃ gs hg, GSP used U w0 w kb p N vs gs hv hg t k
theorem WS.toGS (h : WS used U w0 w kb p N vs hv hg 17) : GS used U w0 w kb p N vs hv 0 0 := by
  refine ⟨fun _ => [], hg, h.bk, h.ks, fun K _ => by simp [laidN], fun K hK k v hv => ?_, fun K hK => ⟨h.apart K hK, (fun i j u v _ _ hv => by simp at hv), (fun i j u v _ hu => by simp at hu)⟩, h.few, h.used, h.ukb, h.inU, fun K _ x hx => (Rows.notEmpty (K := K) rfl x hx).elim, fun K hK x hx => .inl (h.hgU K hK x hx), h.kept⟩
  obtain ⟨n, xs, h1, h2, h3⟩ := h.rows K hK k v hv
  have := h3 hK
  subst this
  exact ⟨n, h1, h2, fun g hg => by simp at hg⟩
theorem GSP.rowsV {t : Nat} (h : GSP used U w0 w kb p N vs gs hv hg t k) {K : Nat} (hK : K < 17) : Rows w K (vs K) (fun _ _ _ => True) := fun i v hv => by
  obtain ⟨n, h1, h2, _⟩ := h.gr K hK i v hv
  exact ⟨n, _, h1, h2, trivial⟩
theorem GSP.gl {t : Nat} (h : GSP used U w0 w kb p N vs gs hv hg t k) {K : Nat} (hK : K < 17) : (gs K).length ≤ (vs K).length := by
  rw [h.len K hK]; exact laidN_le _ _ _ (Nat.zero_le _)
/-- A grown list's own row. -/
theorem GSP.rowG {t : Nat} (h : GSP used U w0 w kb p N vs gs hv hg t k) {K : Nat} (hK : K < 17) {g : Value} (hg' : g ∈ gs K) : ∃ n xs, w.ownsRow 0 (eT K) (sz K) g n xs := by
  obtain ⟨i, hi⟩ := List.mem_iff_getElem?.1 hg'
  have hil : i < (vs K).length := Nat.lt_of_lt_of_le (List.getElem?_eq_some_iff.1 hi).1 (h.gl hK)
  obtain ⟨n, _, _, h3⟩ := h.gr K hK i _ (List.getElem?_eq_getElem hil)
  exact ⟨_, _, h3 g hi⟩
theorem GSP.step (hU : UsedOK used) {t : Nat} (h : GSP used U w0 w kb p N vs gs hv hg t k) (hk : k < 17) {e : Ending} (hs : GrowSaid kb k 0 p (idN vs k : Int) (vs k) (gs k) (hv k) (hg k) t w e w') :
    e = .returned (.int .i64 ((idN vs k : Int) + (vs k).length)) ∧ GS used U w0 w' kb p N vs hv t (k + 1) := by
  obtain ⟨he, hg', gs', hi⟩ := hs
  refine ⟨he, upd gs k gs', upd hg k hg', hi.bk, ?_, ?_, ?_, ?_, h.few, h.used, h.ukb, h.inU, ?_, ?_, ?_⟩
  · intro L hL
    by_cases hLk : L = k
    · subst hLk; simp only [upd_same]; exact hi.ks
    · simp only [upd_ne _ _ hLk]
      have hst : sT L ≠ sT k := fun e => hLk (sT_inj L hL k hk e)
      have a := h.ks L hL
      have out : ∀ {v : Value} {n : Nat} {xs : List Value}, w.ownsRow 0 (sT L) 1 v n xs → ∀ g, v.ownBlock = some g → ¬ (g = kb ∨ (hg k).ownBlock = some g ∨ InB (gs k) g ∨ InB (vs k) g) := fun {v n xs} ho g hg1 hx => by
        rcases hx with h1 | h1 | ⟨u, h1, h2⟩ | h1
        · subst h1; exact h.bk.not ho (sT_book L) hg1
        · exact own_apart ho (h.ks k hk).og hst hg1 h1
        · rcases h.used k hk with hu | hu
          · obtain ⟨m, ys, h3⟩ := h.rowG hk h1
            exact own_apart ho h3 (cont_eT_sT k L (hU k hk hu)) hg1 h2
          · have := h.gl hk
            rw [hu] at this
            rw [List.eq_nil_of_length_eq_zero (Nat.le_zero.1 this)] at h1; cases h1
        · exact not_inb (L := L) hU hk (h.used k hk) (h.rowsV hk) ho (fun hc => cont_eT_sT k L hc) hg1 h1
      exact ⟨(hi.cells _ (by omega)).trans a.cv, (hi.cells _ (by omega)).trans a.cg, own_kept a.ov hi.kept (out a.ov), own_kept a.og hi.kept (out a.og), a.sep⟩
  · intro L hL
    by_cases hLk : L = k
    · subst hLk
      simp only [upd_same]
      rw [hi.len, if_pos (by omega)]; rfl
    · simp only [upd_ne _ _ hLk]
      rw [h.len L hL]
      by_cases hlt : L < k
      · rw [if_pos hlt, if_pos (by omega)]
      · rw [if_neg hlt, if_neg (by omega)]
  · intro L hL
    by_cases hLk : L = k
    · subst hLk
      simp only [upd_same]
      intro i v hv
      obtain ⟨n, h1, h2, h3⟩ := hi.gr i v hv
      refine ⟨n, h1, h2, fun g hg1 => ?_⟩
      have h4 := h3 g hg1
      have hil := (List.getElem?_eq_some_iff.1 hv).1
      dsimp only at h4
      rw [if_pos hil] at h4
      dsimp only
      rw [if_pos (by omega)]
      exact h4
    · simp only [upd_ne _ _ hLk]
      have hif : (if L < k + 1 then t + 1 else t) = if L < k then t + 1 else t := by
        by_cases hlt : L < k
        · rw [if_pos hlt, if_pos (by omega)]
        · rw [if_neg hlt, if_neg (by omega)]
      rw [hif]
      rcases h.used L hL with hu | hu
      · have out : ∀ {v : Value} {n : Nat} {xs : List Value}, w.ownsRow 0 (eT L) (sz L) v n xs → ∀ g, v.ownBlock = some g → ¬ (g = kb ∨ (hg k).ownBlock = some g ∨ InB (gs k) g ∨ InB (vs k) g) := fun {v n xs} ho g hg1 hx => by
          rcases hx with h1 | h1 | ⟨u, h1, h2⟩ | h1
          · subst h1; exact h.bk.not ho (eT_book L) hg1
          · exact own_apart ho (h.ks k hk).og (Ne.symm (cont_eT_sT L k (hU L hL hu))) hg1 h1
          · obtain ⟨m, ys, h3⟩ := h.rowG hk h1
            exact own_apart ho h3 (fun he => hLk (eT_inj L hL k hk he)) hg1 h2
          · exact not_inb (L := L) hU hk (h.used k hk) (h.rowsV hk) ho (fun _ he => hLk (eT_inj L hL k hk he)) hg1 h1
        intro i v hv
        obtain ⟨n, h1, h2, h3⟩ := h.gr L hL i v hv
        exact ⟨n, h1, own_kept h2 hi.kept (out h2), fun g hg1 => own_kept (h3 g hg1) hi.kept (out (h3 g hg1))⟩
      · intro i v hv
        rw [hu] at hv; simp at hv
  · intro L hL
    by_cases hLk : L = k
    · subst hLk; simp only [upd_same]; exact hi.ap
    · simp only [upd_ne _ _ hLk]; exact h.ap L hL
  · intro L hL x hx
    by_cases hLk : L = k
    · subst hLk
      simp only [upd_same] at hx
      rcases hi.blk x hx with h1 | h1 | h1
      · exact h.ing L hL x h1
      · exact .inl (h.inU L hL x h1)
      · exact .inr (Nat.le_trans h.kept.size h1)
    · simp only [upd_ne _ _ hLk] at hx; exact h.ing L hL x hx
  · intro L hL x hx
    by_cases hLk : L = k
    · subst hLk
      simp only [upd_same] at hx
      rcases hi.hdr x hx with h1 | h1
      · exact h.hgU L hL x h1
      · exact .inr (Nat.le_trans h.kept.size h1)
    · simp only [upd_ne _ _ hLk] at hx; exact h.hgU L hL x hx
  · refine h.kept.trans hi.kept ?_
    rintro x (h1 | h1 | h1 | h1)
    · exact .inl (by rw [h1]; exact h.ukb)
    · exact h.hgU k hk x h1
    · exact h.ing k hk x h1
    · exact .inl (h.inU k hk x h1)
theorem GS.turn {t : Nat} (h : GS used U w0 w kb p N vs hv t 17) : GS used U w0 w kb p N vs hv (t + 1) 0 := by
  obtain ⟨gs, hg, h⟩ := h
  refine ⟨gs, hg, h.bk, h.ks, fun K hK => by rw [h.len K hK, if_pos hK, if_neg (by omega)], fun K hK => ?_, h.ap, h.few, h.used, h.ukb, h.inU, h.ing, h.hgU, h.kept⟩
  have := h.gr K hK
  rw [if_pos hK] at this
  rw [if_neg (by omega)]; exact this
theorem GSP.below {t : Nat} (h : GSP used U w0 w kb p N vs gs hv hg t k) (hb : Below w.heap.size w w') : GSP used U w0 w' kb p N vs gs hv hg t k :=
  ⟨h.bk.below hb, fun K hK => (h.ks K hK).below h.bk hb, h.len, fun K hK i v hv => by
    obtain ⟨n, h1, h2, h3⟩ := h.gr K hK i v hv
    exact ⟨n, h1, own_below_any h2 hb, fun g hg => own_below_any (h3 g hg) hb⟩, h.ap, h.few, h.used, h.ukb, h.inU, h.ing, h.hgU, h.kept.trans (Kept.of_below (F := U) hb) (fun x h => .inl h)⟩
theorem GSP.showsV {t : Nat} (h : GSP used U w0 w kb p N vs gs hv hg t 0) {K : Nat} (hK : K < 17) : Shows w K p (idN vs K : Int) (vs K) := fun i v hv => by
  obtain ⟨n, h1, h2, _⟩ := h.gr K hK i v hv
  obtain ⟨A, c, rfl, h4, h5⟩ := own_hdr h2
  exact ⟨n, by omega, A, c, rfl, h4, h5, own_rd h2⟩
theorem GSP.showsG {t : Nat} (ht : t ≤ 100) (h : GSP used U w0 w kb p N vs gs hv hg t 0) {K : Nat} (hK : K < 17) : Shows w K p (idN vs K : Int) (gs K) := fun i v hv => by
  have hil : i < (vs K).length := Nat.lt_of_lt_of_le (List.getElem?_eq_some_iff.1 hv).1 (h.gl hK)
  obtain ⟨n, h1, h2, h3⟩ := h.gr K hK i _ (List.getElem?_eq_getElem hil)
  have h6 := h3 v hv
  obtain ⟨A, c, rfl, h4, h5⟩ := own_hdr h6
  refine ⟨_, ?_, A, c, rfl, h4, h5, own_rd h6⟩
  dsimp only
  rw [if_neg (by omega)]; omega
theorem BkP.toWS (h : BkP used w kb U N vs ws hv hw) : WS used U w w kb 0 N vs hv (fun _ => .slice none 0 0) 0 := by
  refine ⟨h.bk, fun K hK => ⟨(h.k K hK).hvs.1, (h.k K hK).hgs, (h.k K hK).hvs.2, World.ownsRow_nil _ _ _ _, (sep_nil _ _ _).symm⟩, fun K hK i v hv => ?_, h.apart, h.few, h.used, h.ukb, fun K hK x hx => ?_, (fun K hK x hx => by cases hx), Kept.refl _ _⟩
  · obtain ⟨u, _, _, n, xs, ys, h1, h2, _⟩ := h.same K hK i v hv
    exact ⟨n, xs, h1, h2, fun hlt => by omega⟩
  · obtain ⟨v, hv, hx⟩ := hx
    obtain ⟨i, hi⟩ := List.mem_iff_getElem?.1 hv
    obtain ⟨u, _, _, n, xs, ys, _, _, _, h4, _⟩ := h.same K hK i v hi
    exact h4 x hx
theorem KindOK.mono {K : Nat} {P Q : List Value → Prop} (h : KindOK K P) (hpq : ∀ l, Q l → P l) : KindOK K Q where
  untouched := fun kb b p vs ws hv hw U w hP => h.untouched kb b p vs ws hv hw U w (hpq _ hP)
  write := fun kb b p id vs gs hv hg w hP => h.write kb b p id vs gs hv hg w (hpq _ hP)
  hold := fun kb b p id vs gs hv hg w hP => h.hold kb b p id vs gs hv hg w (hpq _ hP)
  grow := fun kb t b p id vs gs hv hg w hP => h.grow kb t b p id vs gs hv hg w (hpq _ hP)
/-- The methods of all kinds. -/
def All (used : Nat → Bool) : Prop := ∀ K, K < 17 → KindOK K (fun l => used K = true ∨ l = [])
end
end Bk
end Go.Proofs.YtmeoafodcniliaaGreatDoor
