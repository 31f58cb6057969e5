/- Readers in memory; varint's Int -/
import Derived.Test.YtkohakogknodeaaVForm
namespace Go.Proofs.Ytkohakogknodeaa
open Go.RowKit
set_option linter.unusedSimpArgs false
set_option linter.unusedVariables false
/-- One block alone may have changed; memory may have grown. -/
abbrev Upd (g : Nat) (w w' : World) : Prop := w.grownBy w' (some g)
theorem Upd.refl (g : Nat) (w : World) : Upd g w w := ⟨rfl, rfl, rfl, Nat.le_refl _, fun _ _ _ => rfl⟩
theorem Upd.trans {g : Nat} {a b c : World} (h : Upd g a b) (k : Upd g b c) : Upd g a c :=
  ⟨k.os.trans h.os, k.tape.trans h.tape, k.output.trans h.output, Nat.le_trans h.size k.size, fun i hi hne => (k.block i (Nat.lt_of_lt_of_le hi h.size) hne).trans (h.block i hi hne)⟩
theorem Upd.of_below {g : Nat} {w w' : World} (h : Below w.heap.size w w') : Upd g w w' := ⟨h.os, h.tape, h.output, h.size, fun k hk _ => h.block k hk⟩
theorem Upd.below {g B : Nat} {w w' : World} (h : Upd g w w') (hB : B ≤ g) (hs : B ≤ w.heap.size) : Below B w w' :=
  (Below.refl B w).grown h hs fun k e => by injection e with e; omega
theorem Upd.setCell {g : Nat} (w : World) (o : Nat) (v : Value) : Upd g w (w.setCell ⟨g, o, none⟩ v) := by
  refine ⟨rfl, rfl, rfl, by simp [World.setCell], fun k hk hne => ?_⟩
  have hne' : g ≠ k := fun h => hne (by rw [h])
  simp [World.setCell, Array.getElem?_modify, hne']
theorem Upd.drewN {g : Nat} {w w' : World} (h : Upd g w w') (n : Nat) : Upd g w (w'.drewN n) := h.trans ⟨rfl, rfl, rfl, Nat.le_refl _, fun _ _ _ => rfl⟩
/-- A reader: its bytes, place and error; its bytes in memory of its own. -/
def RdrIs (T : TypeId) (w : World) (base g : Nat) (A : Option Addr) (n cap : Nat) (bs : List (BitVec 8)) (at' : Nat) (er : Int) : Prop :=
  w.heap[g]? = some (.cells #[.slice A n cap, .int .i64 (at' : Int), .int .i64 er] T (0, 0)) ∧ w.ownsRow base 5 1 (.slice A n cap) n (bs.map V8) ∧ n = bs.length ∧ at' ≤ n ∧ base ≤ g
theorem own_type {w w' : World} {base g n cap : Nat} {A : Option Addr} {xs cs : List Value} {csg : Array Value} {T : TypeId} {fr : Nat × Nat} (ho : w.ownsRow base 5 1 (.slice A n cap) n xs) (hg : w.heap[g]? = some (.cells csg T fr)) (hT : T ≠ 5) (hu : Upd g w w') :
    w'.ownsRow base 5 1 (.slice A n cap) n xs := by
  refine ho.kept hu ?_
  rcases ho.2 with ⟨h, _⟩ | ⟨k, c, cur, h, _, hk, _⟩
  · injection h with h; subst h; exact Or.inl rfl
  · injection h with h; subst h
    right
    simp only [Value.ownBlock, ne_eq, Option.some.injEq]
    intro e; subst e; rw [hg] at hk; injection hk with hk; injection hk with _ hk _; exact hT hk
theorem RdrIs.other {T T' : TypeId} {w w' : World} {base g h n cap at' : Nat} {A : Option Addr} {bs : List (BitVec 8)} {er : Int} {csg : Array Value} {fr : Nat × Nat} (hr : RdrIs T w base h A n cap bs at' er) (hg : w.heap[g]? = some (.cells csg T' fr)) (hT : T' ≠ 5) (hne : h ≠ g) (hu : Upd g w w') :
    RdrIs T w' base h A n cap bs at' er :=
  ⟨(hu.block h (lt_heap hr.1) (by simpa using hne)).trans hr.1, own_type (cs := []) hr.2.1 hg hT hu, hr.2.2.1, hr.2.2.2.1, hr.2.2.2.2⟩
theorem RdrIs.below {T : TypeId} {w w' : World} {base h n cap at' : Nat} {A : Option Addr} {bs : List (BitVec 8)} {er : Int} (hr : RdrIs T w base h A n cap bs at' er) (hb : Below w.heap.size w w') : RdrIs T w' base h A n cap bs at' er :=
  ⟨(hb.block h (lt_heap hr.1)).trans hr.1, own_below hr.2.1 hb (Nat.le_refl _), hr.2.2⟩
theorem own_cap {w : World} {base : Nat} {t : TypeId} {A : Option Addr} {n cap : Nat} {xs : List Value} (h : w.ownsRow base t 1 (.slice A n cap) n xs) : n ≤ cap ∧ cap ≤ maxLen := by
  obtain ⟨_, _, e, h1, h2, _⟩ := own_form h
  injection e with _ _ e; subst e; exact ⟨h1, h2⟩
theorem rdr_set {T : TypeId} {W : World} {base g n cap at2 : Nat} {A : Option Addr} {bs : List (BitVec 8)} {a0 e0 : Value} {v1 er2 : Int} (hg : W.heap[g]? = some (.cells #[.slice A n cap, a0, e0] T (0, 0))) (hT : T ≠ 5)
    (ho : W.ownsRow base 5 1 (.slice A n cap) n (bs.map V8)) (hn : n = bs.length) (h2 : at2 ≤ n) (hb : base ≤ g) (hv : v1 = (at2 : Int)) :
    Upd g W ((W.setCell ⟨g, 1, none⟩ (.int .i64 v1)).setCell ⟨g, 2, none⟩ (.int .i64 er2)) ∧ RdrIs T ((W.setCell ⟨g, 1, none⟩ (.int .i64 v1)).setCell ⟨g, 2, none⟩ (.int .i64 er2)) base g A n cap bs at2 er2 := by
  have u : Upd g W ((W.setCell ⟨g, 1, none⟩ (.int .i64 v1)).setCell ⟨g, 2, none⟩ (.int .i64 er2)) := (Upd.setCell W 1 _).trans (Upd.setCell _ 2 _)
  refine ⟨u, ?_, own_type (cs := []) ho hg hT u, hn, h2, hb⟩
  have h1 := heap_set hg 1 (.int .i64 v1)
  have h2 := heap_set h1 2 (.int .i64 er2)
  rw [h2, hv]; rfl
namespace Vi
def iX (bs : List (BitVec 8)) (at' : Nat) (er : Int) : Nat := if er = 0 then numX (bs.drop at') else 0
def iAt (bs : List (BitVec 8)) (at' : Nat) (er : Int) : Nat := if er = 0 then at' + numN (bs.drop at') else at'
def iE (bs : List (BitVec 8)) (at' : Nat) (er : Int) : Int := if er = 0 then numE (bs.drop at') else er
theorem iAt_le (bs : List (BitVec 8)) (at' : Nat) (er : Int) (h : at' ≤ bs.length) : iAt bs at' er ≤ bs.length := by
  unfold iAt; split
  · have := (numN_le (bs.drop at')).1; rw [List.length_drop] at this; omega
  · exact h
end Vi
theorem quiet_form (A : Option Addr) (n cap B m : Nat) (bs : List (BitVec 8)) (w : World) (hn : n = bs.length) (hc : n ≤ cap) (hcm : cap ≤ maxLen) (hnil : A = none → n = 0 ∧ cap = 0) (hr : Rd w B A (bs.map V8)) :
    Calls Try.prog 42 #[.slice A n cap] (w.drewN m) fun e w' => e = .returned (.tuple #[.int .i64 (Vi.numX bs : Int), .int .i64 (Vi.numN bs : Int), .int .i64 (Vi.numE bs)]) ∧ ∃ k, w' = w.drewN k :=
  (form_calls A n cap B bs (w.drewN m) hn hc hcm hnil hr).mono fun _ _ ⟨he, hw⟩ => ⟨he, m, hw.symm⟩
theorem rd_dropN {w : World} {B blk off : Nat} {bs : List (BitVec 8)} (h : Rd w B (some ⟨blk, off, none⟩) (bs.map V8)) (o : Nat) : Rd w B (some ⟨blk, off + o, none⟩) ((bs.drop o).map V8) := by
  intro k v hv
  rw [List.map_drop, List.getElem?_drop] at hv
  obtain ⟨b, of, e, h1, h2⟩ := h (o + k) v hv
  injection e with e; injection e with e1 e2; subst e1; subst e2
  exact ⟨_, _, rfl, h1, by rw [Nat.add_assoc]; exact h2⟩
set_option maxHeartbeats 4000000 in
set_option maxRecDepth 20000 in
theorem int_calls (g : Nat) (A : Option Addr) (n cap at' base : Nat) (bs : List (BitVec 8)) (er : Int) (w : World) (hr : RdrIs 68 w base g A n cap bs at' er) (hm : n ≤ 1099511627776) :
    Calls Try.prog 34 #[.pointer (some ⟨g, 0, none⟩)] w fun e w' => e = .returned (.int .i64 (Vi.iX bs at' er : Int)) ∧ Upd g w w' ∧ RdrIs 68 w' base g A n cap bs (Vi.iAt bs at' er) (Vi.iE bs at' er) := by
  obtain ⟨hg, hown, hn, hat, hbg⟩ := hr
  have c0 : w.cell? ⟨g, 0, none⟩ = some (.slice A n cap) := by rw [cell_heap hg]; rfl
  have c1 : w.cell? ⟨g, 1, none⟩ = some (.int .i64 (at' : Int)) := by rw [cell_heap hg]; rfl
  have c2 : w.cell? ⟨g, 2, none⟩ = some (.int .i64 er) := by rw [cell_heap hg]; rfl
  obtain ⟨o1, o2⟩ := own_cap hown
  have Hg := Lib.hid hg; have Hown := Lib.hid hown; have Hn := Lib.hid hn
  unfold maxLen at o2
  clear hg hown hn
  go_enter Try.func34, Try.ntmps34
  by_cases he : er = 0
  · subst he
    have hd := Lib.hid (show n - at' = (bs.drop at').length by rw [List.length_drop, ← Hn.out])
    have ha1 : (at' : Int) ≤ (n : Int) := by omega
    have ha2 : (at' : Int) ≤ (cap : Int) := by omega
    have hx := Vi.numX_lt (bs.drop at')
    have hnn := (Vi.numN_le (bs.drop at')).2
    have Hs := Lib.hid (show Vi.iX bs at' 0 = Vi.numX (bs.drop at') ∧ Vi.iAt bs at' 0 = at' + Vi.numN (bs.drop at') ∧ Vi.iE bs at' 0 = Vi.numE (bs.drop at') by unfold Vi.iX Vi.iAt Vi.iE; exact ⟨if_pos rfl, if_pos rfl, if_pos rfl⟩)
    obtain ⟨D, hD⟩ : ∃ D, D = bs.drop at' := ⟨_, rfl⟩
    rw [← hD] at hd hx hnn Hs
    have HD := Lib.hid hD
    clear hD
    have hA : (A = none ∧ n = 0 ∧ cap = 0 ∧ at' = 0) ∨ ∃ blk, A = some ⟨blk, 0, none⟩ := by
      rcases Hown.out.2 with ⟨h, h0⟩ | ⟨k, _, _, h, _⟩
      · injection h with h1 h2 h3; exact Or.inl ⟨h1, h0, h3, by omega⟩
      · injection h with h; exact Or.inr ⟨k, h⟩
    have hsub : (∃ blk, A = some ⟨blk, 0, none⟩ ∧ ¬ at' = cap) ∨ (∃ blk, A = some ⟨blk, 0, none⟩ ∧ at' = cap) ∨ (A = none ∧ n = 0 ∧ cap = 0 ∧ at' = 0) := by
      rcases hA with h | ⟨k, h⟩
      · exact Or.inr (Or.inr h)
      · by_cases hc : at' = cap
        · exact Or.inr (Or.inl ⟨k, h, hc⟩)
        · exact Or.inl ⟨k, h, hc⟩
    clear hA
    rcases hsub with ⟨blk, rfl, hcc⟩ | ⟨blk, rfl, rfl⟩ | ⟨rfl, rfl, rfl, rfl⟩
    · have hne : (cap = at') = False := by rw [eq_iff_iff]; constructor <;> intro hx <;> first | omega | cases hx
      have Hrd := Lib.hid (show Rd w w.heap.size (some ⟨blk, at', none⟩) (D.map V8) by have := rd_dropN (own_rd Hown.out) at'; rw [Nat.zero_add] at this; rw [HD.out]; exact this)
      go_wp2_with fail
      go_quiet ((go_at_call 42; exact quiet_form _ _ _ _ _ D _ hd.out (by omega) (by unfold maxLen; omega) (by intro h; cases h) Hrd.out))
      have hgW : (w.drewN nq).heap[g]? = _ := Hg.out
      have hoW := Hown.out
      have huW : Upd g w (w.drewN nq) := (Upd.refl g w).drewN nq
      have k1 : (w.drewN nq).cell? ⟨g, 1, none⟩ = some (.int .i64 ((at' : Nat) : Int)) := c1
      have hoW : (w.drewN nq).ownsRow base 5 1 _ _ (bs.map V8) := Hown.out
      generalize w.drewN nq = W at *
      have z1 : W.frozen? ⟨g, 1, none⟩ = false := by simp [World.frozen?, hgW]
      have k2 : W.cell? ⟨g, 2, none⟩ = some (.int .i64 0) := by rw [cell_heap hgW]; rfl
      have z2 : W.frozen? ⟨g, 2, none⟩ = false := by simp [World.frozen?, hgW]
      generalize Vi.numX D = X at *
      generalize Vi.numN D = M at *
      generalize Vi.numE D = E at *
      have HgW := Lib.hid hgW; have HoW := Lib.hid hoW; have HuW := Lib.hid huW
      clear hgW hoW huW Hg Hown c0 c1 c2 Hrd
      go_wp2_with fail
      go_ret
      obtain ⟨s1, s2, s3⟩ := Hs.out
      have hAt := Vi.iAt_le bs (at') 0 (by rw [← Hn.out]; omega)
      obtain ⟨u1, u2⟩ := rdr_set (at2 := Vi.iAt bs (at') 0) (v1 := (at' : Int) + (M : Int)) (er2 := E) HgW.out (by decide) HoW.out Hn.out (by rw [← Hn.out] at hAt; exact hAt) hbg (by rw [s2]; omega)
      exact ⟨by rw [s1]; rfl, HuW.out.trans u1, by rw [s3]; exact u2⟩
    · have hz : D = [] := by rw [HD.out]; exact List.drop_eq_nil_of_le (by rw [← Hn.out]; omega)
      have Hrd := Lib.hid (show ∀ A B, Rd w B A (D.map V8) from fun A B => by rw [hz]; exact Rd.nil _ _ _)
      clear hz
      go_wp2_with fail
      go_quiet ((go_at_call 42; exact quiet_form _ _ _ w.heap.size _ D _ (by rw [← hd.out]; omega) (by omega) (by unfold maxLen; omega) (by first | (intro h; cases h; done) | (intro h; omega)) (Hrd.out _ _)))
      have hgW : (w.drewN nq).heap[g]? = _ := Hg.out
      have hoW := Hown.out
      have huW : Upd g w (w.drewN nq) := (Upd.refl g w).drewN nq
      have k1 : (w.drewN nq).cell? ⟨g, 1, none⟩ = some (.int .i64 ((at' : Nat) : Int)) := c1
      have hoW : (w.drewN nq).ownsRow base 5 1 _ _ (bs.map V8) := Hown.out
      generalize w.drewN nq = W at *
      have z1 : W.frozen? ⟨g, 1, none⟩ = false := by simp [World.frozen?, hgW]
      have k2 : W.cell? ⟨g, 2, none⟩ = some (.int .i64 0) := by rw [cell_heap hgW]; rfl
      have z2 : W.frozen? ⟨g, 2, none⟩ = false := by simp [World.frozen?, hgW]
      generalize Vi.numX D = X at *
      generalize Vi.numN D = M at *
      generalize Vi.numE D = E at *
      have HgW := Lib.hid hgW; have HoW := Lib.hid hoW; have HuW := Lib.hid huW
      clear hgW hoW huW Hg Hown c0 c1 c2 Hrd
      go_wp2_with fail
      go_ret
      obtain ⟨s1, s2, s3⟩ := Hs.out
      have hAt := Vi.iAt_le bs (at') 0 (by rw [← Hn.out]; omega)
      obtain ⟨u1, u2⟩ := rdr_set (at2 := Vi.iAt bs (at') 0) (v1 := (at' : Int) + (M : Int)) (er2 := E) HgW.out (by decide) HoW.out Hn.out (by rw [← Hn.out] at hAt; exact hAt) hbg (by rw [s2]; omega)
      exact ⟨by rw [s1]; rfl, HuW.out.trans u1, by rw [s3]; exact u2⟩
    · have Hrd := Lib.hid (show ∀ A B, Rd w B A (D.map V8) from fun A B => by rw [HD.out, show bs = [] from List.eq_nil_of_length_eq_zero Hn.out.symm]; exact Rd.nil _ _ _)
      go_wp2_with fail
      go_quiet ((go_at_call 42; exact quiet_form _ _ _ w.heap.size _ D _ (by rw [← hd.out]) (by omega) (by unfold maxLen; omega) (fun _ => ⟨rfl, rfl⟩) (Hrd.out _ _)))
      have hgW : (w.drewN nq).heap[g]? = _ := Hg.out
      have hoW := Hown.out
      have huW : Upd g w (w.drewN nq) := (Upd.refl g w).drewN nq
      have k1 : (w.drewN nq).cell? ⟨g, 1, none⟩ = some (.int .i64 ((0 : Nat) : Int)) := c1
      have hoW : (w.drewN nq).ownsRow base 5 1 _ _ (bs.map V8) := Hown.out
      generalize w.drewN nq = W at *
      have z1 : W.frozen? ⟨g, 1, none⟩ = false := by simp [World.frozen?, hgW]
      have k2 : W.cell? ⟨g, 2, none⟩ = some (.int .i64 0) := by rw [cell_heap hgW]; rfl
      have z2 : W.frozen? ⟨g, 2, none⟩ = false := by simp [World.frozen?, hgW]
      generalize Vi.numX D = X at *
      generalize Vi.numN D = M at *
      generalize Vi.numE D = E at *
      have HgW := Lib.hid hgW; have HoW := Lib.hid hoW; have HuW := Lib.hid huW
      clear hgW hoW huW Hg Hown c0 c1 c2 Hrd
      go_wp2_with fail
      go_ret
      obtain ⟨s1, s2, s3⟩ := Hs.out
      have hAt := Vi.iAt_le bs (0) 0 (by rw [← Hn.out]; omega)
      obtain ⟨u1, u2⟩ := rdr_set (at2 := Vi.iAt bs (0) 0) (v1 := (M : Int)) (er2 := E) HgW.out (by decide) HoW.out Hn.out (by rw [← Hn.out] at hAt; exact hAt) hbg (by rw [s2]; omega)
      exact ⟨by rw [s1]; rfl, HuW.out.trans u1, by rw [s3]; exact u2⟩
  · have hs : Vi.iX bs at' er = 0 ∧ Vi.iAt bs at' er = at' ∧ Vi.iE bs at' er = er := by unfold Vi.iX Vi.iAt Vi.iE; exact ⟨if_neg he, if_neg he, if_neg he⟩
    have Hs := Lib.hid hs
    have hb : (er != 0) = true := by rw [bne_iff_ne]; exact he
    clear hs he
    go_wp2_with fail
    go_ret
    obtain ⟨s1, s2, s3⟩ := Hs.out
    exact ⟨by rw [s1]; rfl, Upd.refl _ _, by rw [s2, s3]; exact ⟨Hg.out, Hown.out, Hn.out, hat, hbg⟩⟩
end Go.Proofs.Ytkohakogknodeaa
