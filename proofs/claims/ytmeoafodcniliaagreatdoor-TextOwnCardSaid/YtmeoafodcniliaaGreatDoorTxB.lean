/- pithlaw4.scanned -/
import Derived.Test.YtmeoafodcniliaaGreatDoorTxR
import Derived.Deep.DeepCutAuto
namespace Go.Proofs.YtmeoafodcniliaaGreatDoor.C4
open Go.RowKit
set_option linter.unusedSimpArgs false
set_option linter.unusedVariables false
namespace Tx
theorem nlIdx_append {c : List By} {i : Nat} (d : List By) (h : nlIdx c = some i) : nlIdx (c ++ d) = some i := by
  induction c generalizing i with
  | nil => cases h
  | cons x r ih =>
    rw [List.cons_append]
    unfold nlIdx at h ⊢
    by_cases hx : n8 x = 10
    · rw [if_pos hx] at h ⊢; exact h
    · rw [if_neg hx] at h ⊢
      cases hr : nlIdx r with
      | none => rw [hr] at h; cases h
      | some j => rw [hr] at h; rw [ih hr]; exact h
theorem whole_append_le : ∀ (k : Nat) (c d : List By), c.length ≤ k → whole (c ++ d) = whole c ++ whole (tail c ++ d) ∧ tail (c ++ d) = tail (tail c ++ d)
  | 0, c, d, h => by
    have : c = [] := List.eq_nil_of_length_eq_zero (by omega)
    subst this
    exact ⟨rfl, rfl⟩
  | k + 1, c, d, h => by
    cases hi : nlIdx c with
    | none => rw [(whole_none hi).1, (whole_none hi).2]; exact ⟨rfl, rfl⟩
    | some i =>
      have hl := nlIdx_lt hi
      have ha := nlIdx_append d hi
      rw [(whole_some ha).1, (whole_some ha).2, (whole_some hi).1, (whole_some hi).2]
      have e1 : (c ++ d).take i = c.take i := by rw [List.take_append_of_le_length (by omega)]
      have e2 : (c ++ d).drop (i + 1) = c.drop (i + 1) ++ d := by rw [List.drop_append_of_le_length (by omega)]
      rw [e1, e2]
      obtain ⟨h1, h2⟩ := whole_append_le k (c.drop (i + 1)) d (by simp; omega)
      rw [h1, h2]
      exact ⟨rfl, rfl⟩
theorem whole_append (c d : List By) : whole (c ++ d) = whole c ++ whole (tail c ++ d) := (whole_append_le c.length c d (Nat.le_refl _)).1
theorem tail_append (c d : List By) : tail (c ++ d) = tail (tail c ++ d) := (whole_append_le c.length c d (Nat.le_refl _)).2
/-- What the whole lines of a text say. -/
abbrev runW (c : List By) : Run := run 0 false (whole c)
theorem runW_on {c : List By} (d : List By) (h : (runW c).e = 0) : runW (c ++ d) =
    ⟨(runW c).pairs ++ (run (runW c).n (runW c).begun (whole (tail c ++ d))).pairs, (run (runW c).n (runW c).begun (whole (tail c ++ d))).e, (runW c).k + (run (runW c).n (runW c).begun (whole (tail c ++ d))).k, (run (runW c).n (runW c).begun (whole (tail c ++ d))).n, (run (runW c).n (runW c).begun (whole (tail c ++ d))).begun⟩ := by
  show run 0 false (whole (c ++ d)) = _
  rw [whole_append, run_append, if_neg (by rw [show (run 0 false (whole c)).e = 0 from h]; simp)]
theorem runW_fault {c : List By} (d : List By) (h : (runW c).e ≠ 0) : runW (c ++ d) = runW c := by
  show run 0 false (whole (c ++ d)) = _
  rw [whole_append, run_append, if_pos h]
/-- All pairs that are told on the way. -/
def told (b : List By) : List (Int × Int) := if (runW b).e ≠ 0 then (runW b).pairs else (runW b).pairs ++ (run (runW b).n (runW b).begun (lasts (tail b))).pEnd
end Tx
theorem own_ne_own {w : World} {b1 b2 s1 s2 : Nat} {t1 t2 : TypeId} {A1 A2 : Option Addr} {n1 n2 c1 c2 m1 m2 : Nat} {x1 x2 : List Value} (h1 : w.ownsRow b1 t1 s1 (.slice A1 n1 c1) m1 x1) (h2 : w.ownsRow b2 t2 s2 (.slice A2 n2 c2) m2 x2) (ht : t1 ≠ t2) :
    ∀ g, (Value.slice A1 n1 c1).ownBlock = some g → (Value.slice A2 n2 c2).ownBlock = some g → False := by
  intro g e1 e2
  rcases h1.2 with ⟨h3, _⟩ | ⟨g1, _, _, h3, _, h4, _⟩
  · rw [h3] at e1; cases e1
  · rcases h2.2 with ⟨h5, _⟩ | ⟨g2, _, _, h5, _, h6, _⟩
    · rw [h5] at e2; cases e2
    · rw [h3] at e1; rw [h5] at e2
      injection e1 with e1; injection e2 with e2
      simp only at e1 e2
      subst e1; subst e2
      rw [h4] at h6; injection h6 with h6; injection h6 with _ h6; exact ht h6
/-- What was told, in memory. -/
def ToIs (w : World) (g : Nat) (pv : Value) (e n l : Int) : Prop := w.heap[g]? = some (.cells #[pv, .int .i64 e, .int .i64 n, .int .i64 l] 48 (0, 0))
section
variable {w : World} {g : Nat} {pv : Value} {e n l : Int}
theorem ToIs.c0 (h : ToIs w g pv e n l) : w.cell? ⟨g, 0, none⟩ = some pv := by rw [cell_heap h]; rfl
theorem ToIs.c1 (h : ToIs w g pv e n l) : w.cell? ⟨g, 1, none⟩ = some (.int .i64 e) := by rw [cell_heap h]; rfl
theorem ToIs.c2 (h : ToIs w g pv e n l) : w.cell? ⟨g, 2, none⟩ = some (.int .i64 n) := by rw [cell_heap h]; rfl
theorem ToIs.c3 (h : ToIs w g pv e n l) : w.cell? ⟨g, 3, none⟩ = some (.int .i64 l) := by rw [cell_heap h]; rfl
theorem ToIs.f (h : ToIs w g pv e n l) (o : Nat) : w.frozen? ⟨g, o, none⟩ = false := by unfold ToIs at h; simp [World.frozen?, h]
theorem ToIs.lt (h : ToIs w g pv e n l) : g < w.heap.size := lt_heap h
theorem ToIs.s0 (h : ToIs w g pv e n l) (x : Value) : ToIs (w.setCell ⟨g, 0, none⟩ x) g x e n l := by unfold ToIs; rw [heap_set h]; rfl
theorem ToIs.s1 (h : ToIs w g pv e n l) (x : Int) : ToIs (w.setCell ⟨g, 1, none⟩ (.int .i64 x)) g pv x n l := by unfold ToIs; rw [heap_set h]; rfl
theorem ToIs.s2 (h : ToIs w g pv e n l) (x : Int) : ToIs (w.setCell ⟨g, 2, none⟩ (.int .i64 x)) g pv e x l := by unfold ToIs; rw [heap_set h]; rfl
theorem ToIs.s3 (h : ToIs w g pv e n l) (x : Int) : ToIs (w.setCell ⟨g, 3, none⟩ (.int .i64 x)) g pv e n x := by unfold ToIs; rw [heap_set h]; rfl
theorem ToIs.keep {w' : World} {ks : List Nat} (h : ToIs w g pv e n l) (hk : Keep ks w w') (hn : g ∉ ks) : ToIs w' g pv e n l := (hk.block g (lt_heap h) hn).trans h
theorem ToIs.below {w' : World} (h : ToIs w g pv e n l) {B : Nat} (hk : Below B w w') (hn : g < B) : ToIs w' g pv e n l := (hk.block g hn).trans h
end
theorem told_desc : (Tryz.prog.underlying 48).map aggDesc = some true := by kernel_rfl
theorem told_size : (Tryz.prog.info? 48).map (·.size) = some 4 := by kernel_rfl
theorem fin_told {w : World} {g : Nat} {pv : Value} {e n l : Int} (h : ToIs w g pv e n l) (pv' : Value) (e' n' l' : Int) :
    ToIs ((((w.setCell ⟨g, 0, none⟩ pv').setCell ⟨g, 1, none⟩ (.int .i64 e')).setCell ⟨g, 2, none⟩ (.int .i64 n')).setCell ⟨g, 3, none⟩ (.int .i64 l')) g pv' e' n' l' ∧
    Keep [g] w ((((w.setCell ⟨g, 0, none⟩ pv').setCell ⟨g, 1, none⟩ (.int .i64 e')).setCell ⟨g, 2, none⟩ (.int .i64 n')).setCell ⟨g, 3, none⟩ (.int .i64 l')) :=
  ⟨(((h.s0 pv').s1 e').s2 n').s3 l', (((Keep.set w 0 _).trans (Keep.set _ 1 _)).trans (Keep.set _ 2 _)).trans (Keep.set _ 3 _)⟩
theorem Tx.all_told_fault {b : List (BitVec 8)} {P : List (Int × Int)} {e n : Int} {bg : Bool} {k1 k2 : Nat} (h : Tx.runW b = ⟨P, e, k1 + k2, n, bg⟩) (he : ¬ e = 0) : Tx.told b = P ∧ (Tx.all b).eEnd = e ∧ (Tx.all b).n = n ∧ (Tx.all b).fEnd 0 0 = (k1 : Int) + k2 := by
  have h0 : (Tx.run 0 false (Tx.whole b)).e ≠ 0 := by rw [show Tx.run 0 false (Tx.whole b) = _ from h]; exact he
  rw [Tx.all_fault h0, show Tx.run 0 false (Tx.whole b) = _ from h]
  refine ⟨?_, ?_, rfl, ?_⟩
  · unfold Tx.told; rw [h, if_pos he]
  · unfold Tx.Run.eEnd; rw [if_pos he]
  · unfold Tx.Run.fEnd; rw [if_pos he]; simp
theorem Tx.all_told_on {b : List (BitVec 8)} {R2 : Tx.Run} (h : (Tx.runW b).e = 0) (h2 : R2 = Tx.run (Tx.runW b).n (Tx.runW b).begun (Tx.lasts (Tx.tail b))) : Tx.told b = (Tx.runW b).pairs ++ R2.pEnd ∧ (Tx.all b).eEnd = R2.eEnd ∧ (Tx.all b).n = R2.n ∧ (Tx.all b).fEnd 0 0 = R2.fEnd (Tx.runW b).k 0 := by
  have ha := Tx.all_on (t := b) h
  refine ⟨?_, ?_, ?_, ?_⟩
  · unfold Tx.told; rw [if_neg (by rw [h]; simp), ← h2]
  · rw [ha, ← h2]; rfl
  · rw [ha, ← h2]
  · rw [ha, ← h2]; unfold Tx.Run.fEnd; dsimp only; split <;> simp
/-- What scanned answers. -/
def ScannedSaid (b : List (BitVec 8)) (w : World) (en : Ending) (w' : World) : Prop :=
  ∃ Al capl, en = .returned (.tuple #[.agg #[.slice Al (Tx.told b).length capl, .int .i64 (Tx.all b).eEnd, .int .i64 (Tx.all b).n, .int .i64 ((Tx.all b).fEnd 0 0)], .bool true]) ∧
    w'.ownsRow w.heap.size 127 2 (.slice Al (Tx.told b).length capl) (Tx.told b).length (pcs (Tx.told b)) ∧ Below w.heap.size w w'
/-- What holds at a round's start: c has been fed, d is left. -/
structure ScS (w wr : World) (B : Nat) (b c d : List (BitVec 8)) (A : Option Addr) (cap : Nat) (Ar : Option Addr) (capr : Nat) (Ap : Option Addr) (capp : Nat) : Prop where
  eq : c ++ d = b
  rd : Rd wr B A (d.map V8)
  hcap : d.length ≤ cap
  nil : A = none → d.length = 0 ∧ cap = 0
  ok : (Tx.runW c).e = 0
  ed : EdIs wr (w.heap.size + 1) (.slice Ar (Tx.tail c).length capr) (Tx.runW c).k 0 (Tx.runW c).n (Tx.runW c).begun false
  rest : wr.ownsRow (w.heap.size + 3) 5 1 (.slice Ar (Tx.tail c).length capr) (Tx.tail c).length ((Tx.tail c).map V8)
  told : ToIs wr (w.heap.size + 2) (.slice Ap (Tx.runW c).pairs.length capp) 0 0 0
  pairs : wr.ownsRow (w.heap.size + 3) 127 2 (.slice Ap (Tx.runW c).pairs.length capp) (Tx.runW c).pairs.length (pcs (Tx.runW c).pairs)
  res : ToIs wr w.heap.size (.slice none 0 0) 0 0 0
  below : Below w.heap.size w wr
  size : w.heap.size + 3 ≤ wr.heap.size
theorem rem_cut (a : Int) (L : Nat) (hL : L ≤ 65536) : ∃ T : Nat, T ≤ L ∧ (a.tmod ((L : Int) + 1) + (L : Int) + 1) % ((L : Int) + 1) = (T : Int) := by
  have h1 := Int.tmod_lt_of_pos a (show (0 : Int) < (L : Int) + 1 by omega)
  have h2 := Int.lt_tmod_of_pos a (show (0 : Int) < (L : Int) + 1 by omega)
  generalize a.tmod ((L : Int) + 1) = r at *
  have h3 := Int.emod_nonneg (r + (L : Int) + 1) (show (L : Int) + 1 ≠ 0 by omega)
  have h4 := Int.emod_lt_of_pos (r + (L : Int) + 1) (show (0 : Int) < (L : Int) + 1 by omega)
  exact ⟨((r + (L : Int) + 1) % ((L : Int) + 1)).toNat, by omega, by omega⟩
theorem rd_from {w : World} {B : Nat} {a : Addr} {d : List (BitVec 8)} {cap T : Nat} (h : Rd w B (some a) (d.map V8)) (hc : d.length ≤ cap) : Rd w B (if cap = T then some a else some (a.add T)) ((d.drop T).map V8) := by
  by_cases hT : cap = T
  · rw [List.drop_eq_nil_of_le (by omega)]; exact Rd.nil _ _ _
  · rw [if_neg hT]
    intro j v hv
    rw [List.getElem?_map, List.getElem?_drop] at hv
    obtain ⟨b, off, hae, hb, hcell⟩ := h (T + j) v (by rw [List.getElem?_map]; exact hv)
    injection hae with hae; subst hae
    exact ⟨b, off + T, by rw [Addr.add_lit], hb, by rw [Nat.add_assoc]; exact hcell⟩
def sliceLen : Value → Nat | .slice _ n _ => n | _ => 0
abbrev VI (z : Int) : Value := .int .i64 z
set_option maxHeartbeats 8000000 in
set_option maxRecDepth 20000 in
theorem scanned_calls (A : Option Addr) (n cap B : Nat) (b : List (BitVec 8)) (A' : Option Addr) (n' cap' B' : Nat) (zs : List Int) (w : World) (hn : n = b.length) (hm : n ≤ 65536) (hcap : n ≤ cap) (hcm : cap ≤ maxLen) (hnil : A = none → n = 0 ∧ cap = 0) (hB : B ≤ w.heap.size) (hr : Rd w B A (b.map V8))
    (hn' : n' = zs.length) (hcap' : n' ≤ cap') (hcm' : cap' ≤ maxLen) (hB' : B' ≤ w.heap.size) (hr' : Rd w B' A' (zs.map VI)) :
    Calls Tryz.prog 21 #[.slice A n cap, .slice A' n' cap'] w (ScannedSaid b w) := by
  have Hn := Lib.hid hn; have Hnil := Lib.hid hnil; have Hr := Lib.hid hr; have Hn' := Lib.hid hn'; have Hr' := Lib.hid hr'; have Hcap := Lib.hid hcap
  unfold maxLen at hcm hcm'
  clear hn hnil hr hn' hr' hcap
  go_enter Tryz.func21, Tryz.ntmps21
  go_wp2_with fail
  refine (NewEdges_calls _).mono ?_
  rintro en w1 ⟨rfl, rfl⟩
  have hss : ∃ Ar capr Ap capp, ScS w (((w.alloc (.cells #[.slice none 0 0, .int .i64 0, .int .i64 0, .int .i64 0] 48)).alloc (.cells #[.slice none 0 0, .int .i64 0, .int .i64 0, .int .i64 0, .bool false, .bool false] 132)).alloc (.cells #[.slice none 0 0, .int .i64 0, .int .i64 0, .int .i64 0] 48)) B b [] b A cap Ar capr Ap capp := by
    have hz1 : (w.alloc (.cells #[.slice none 0 0, .int .i64 0, .int .i64 0, .int .i64 0] 48)).heap.size = w.heap.size + 1 := by simp
    have hz2 : ((w.alloc (.cells #[.slice none 0 0, .int .i64 0, .int .i64 0, .int .i64 0] 48)).alloc (.cells #[.slice none 0 0, .int .i64 0, .int .i64 0, .int .i64 0, .bool false, .bool false] 132)).heap.size = w.heap.size + 2 := by simp
    have hb : Below w.heap.size w (((w.alloc (.cells #[.slice none 0 0, .int .i64 0, .int .i64 0, .int .i64 0] 48)).alloc (.cells #[.slice none 0 0, .int .i64 0, .int .i64 0, .int .i64 0, .bool false, .bool false] 132)).alloc (.cells #[.slice none 0 0, .int .i64 0, .int .i64 0, .int .i64 0] 48)) := (((Below.refl _ _).alloc (Nat.le_refl _) _).alloc (by omega) _).alloc (by omega) _
    refine ⟨none, 0, none, 0, rfl, Hr.out.below hb hB, by rw [← Hn.out]; exact Hcap.out, fun h => by rw [← Hn.out]; exact Hnil.out h, rfl, ?_, World.ownsRow_nil _ _ _ _, ?_, World.ownsRow_nil _ _ _ _, ?_, hb, by simp⟩
    · have := heap_alloc_new (w.alloc (.cells #[.slice none 0 0, .int .i64 0, .int .i64 0, .int .i64 0] 48)) (.cells #[.slice none 0 0, .int .i64 0, .int .i64 0, .int .i64 0, .bool false, .bool false] 132)
      rw [hz1] at this
      unfold EdIs; rw [Below.heap_alloc _ _ _ (by rw [hz2]; omega)]; exact this
    · have := heap_alloc_new ((w.alloc (.cells #[.slice none 0 0, .int .i64 0, .int .i64 0, .int .i64 0] 48)).alloc (.cells #[.slice none 0 0, .int .i64 0, .int .i64 0, .int .i64 0, .bool false, .bool false] 132)) (.cells #[.slice none 0 0, .int .i64 0, .int .i64 0, .int .i64 0] 48)
      rw [hz2] at this
      exact this
    · have := heap_alloc_new w (.cells #[.slice none 0 0, .int .i64 0, .int .i64 0, .int .i64 0] 48)
      unfold ToIs; rw [Below.heap_alloc _ _ _ (by rw [hz2]; omega), Below.heap_alloc _ _ _ (by rw [hz1]; omega)]; exact this
  obtain ⟨Ar0, capr0, Ap0, capp0, hss⟩ := hss
  have Hss := Lib.hid hss
  clear hss
  go_wp2_with fail
  generalize ((w.alloc (.cells #[.slice none 0 0, .int .i64 0, .int .i64 0, .int .i64 0] 48)).alloc (.cells #[.slice none 0 0, .int .i64 0, .int .i64 0, .int .i64 0, .bool false, .bool false] 132)).alloc (.cells #[.slice none 0 0, .int .i64 0, .int .i64 0, .int .i64 0] 48) = w0 at *
  go_loopw [0, 8] (fun v iv wr => ∃ (i : Nat) (c d : List (BitVec 8)) (A1 : Option Addr) (cap1 : Nat) (Ar : Option Addr) (capr : Nat) (Ap : Option Addr) (capp : Nat), v = .slice A1 d.length cap1 ∧ iv = .int .i64 (i : Int) ∧ i ≤ 300 ∧ cap1 ≤ cap ∧ (i ≤ 200 ∨ d = []) ∧ ScS w wr B b c d A1 cap1 Ar capr Ap capp) (fun v iv _ => (200 - (intOf iv).toNat) + sliceLen v)
  case atStart => exact ⟨0, [], b, A, cap, Ar0, capr0, Ap0, capp0, by rw [← Hn.out], rfl, by omega, Nat.le_refl _, Or.inl (by omega), Hss.out⟩
  case round =>
    obtain ⟨i, c, d, A1, cap1, Ar, capr, Ap, capp, rfl, rfl, hi, hc1, hi2, hS⟩ := hrel
    have hdl : d.length ≤ 65536 := by have := congrArg List.length hS.eq; rw [List.length_append] at this; have := Hn.out; omega
    have hcl : c.length ≤ 65536 := by have := congrArg List.length hS.eq; rw [List.length_append] at this; have := Hn.out; omega
    have HS := Lib.hid hS
    by_cases hd : d.length = 0
    · have hgt : ¬ (0 : Int) < (d.length : Int) := by omega
      have hd0 : d = [] := List.eq_nil_of_length_eq_zero hd
      subst hd0
      have hcb : c = b := by have := hS.eq; rwa [List.append_nil] at this
      subst hcb
      have hkW := Tx.run_k 0 false (Tx.whole c)
      have hpW := Tx.run_e_pairs 0 false (Tx.whole c)
      have hwt := Tx.whole_tail_length c
      have hkc : (Tx.runW c).k ≤ 65536 := by show (Tx.run 0 false (Tx.whole c)).k ≤ _; omega
      have hpc : (Tx.runW c).pairs.length ≤ 65536 := by show (Tx.run 0 false (Tx.whole c)).pairs.length ≤ _; omega
      have htc : (Tx.tail c).length ≤ 65536 := by omega
      have hszr := hS.size
      have hg0 : ∀ a, Ar = some a → a.block ≠ w.heap.size + 1 := by
        rintro a rfl h
        have := (own_blk hS.rest (g := a.block) rfl).1
        omega
      have hen := End_calls (w.heap.size + 1) Ar (Tx.tail c).length capr wr.heap.size (Tx.tail c) (Tx.runW c).k 0 (Tx.runW c).n (Tx.runW c).begun wr hS.ed hg0 (own_nil hS.rest) (own_cap hS.rest).1 rfl (by omega) (Nat.le_refl _) (own_rd hS.rest) (by omega) (by omega)
      unfold EndSaid at hen
      have hon := Tx.all_told_on (b := c) hS.ok rfl
      have hpl : (Tx.run (Tx.runW c).n (Tx.runW c).begun (Tx.lasts (Tx.tail c))).pEnd.length ≤ 1 := by
        have h1 := Tx.run_e_pairs (Tx.runW c).n (Tx.runW c).begun (Tx.lasts (Tx.tail c))
        have h2 := Tx.run_k (Tx.runW c).n (Tx.runW c).begun (Tx.lasts (Tx.tail c))
        have h3 : (Tx.lasts (Tx.tail c)).length ≤ 1 := by unfold Tx.lasts; split <;> simp
        have h4 : (Tx.run (Tx.runW c).n (Tx.runW c).begun (Tx.lasts (Tx.tail c))).pEnd.length ≤ (Tx.run (Tx.runW c).n (Tx.runW c).begun (Tx.lasts (Tx.tail c))).pairs.length := by unfold Tx.Run.pEnd; split <;> simp
        omega
      generalize Tx.run (Tx.runW c).n (Tx.runW c).begun (Tx.lasts (Tx.tail c)) = R2 at *
      obtain ⟨E2, hE2⟩ : ∃ x, x = R2.eEnd := ⟨_, rfl⟩
      obtain ⟨P2, hP2⟩ : ∃ x, x = R2.pEnd := ⟨_, rfl⟩
      obtain ⟨F2, hF2⟩ : ∃ x, x = R2.fEnd (Tx.runW c).k 0 := ⟨_, rfl⟩
      obtain ⟨N2, hN2⟩ : ∃ x, x = R2.n := ⟨_, rfl⟩
      rw [← hE2, ← hP2, ← hF2, ← hN2] at hen hon
      rw [← hP2] at hpl
      have Hen := Lib.hid hen; have Hon := Lib.hid hon
      clear hen hon hE2 hP2 hF2 hN2 hkW hpW hwt hg0 hd
      clear hS
      go_wp2_with fail
      refine (Hen.out).mono ?_
      rintro en w5 ⟨Al, capl, rv, rfl, hl5, hk5, hed⟩
      have hsz5 := hk5.size
      have hpb : ∀ g, (Value.slice Ap (Tx.runW c).pairs.length capp).ownBlock = some g → w.heap.size + 3 ≤ g := fun g hg => (own_blk HS.out.pairs hg).1
      have Hp5 := Lib.hid (own_keep_s HS.out.pairs hk5 (fun g hg hm => by have := hpb g hg; simp at hm; omega))
      have ht5 := HS.out.told.keep hk5 (by simp)
      have He5 := Lib.hid (HS.out.res.keep hk5 (by simp))
      have Hb5 := Lib.hid (HS.out.below.trans (hk5.below (by omega) (by simp)))
      have Hrl := Lib.hid (own_rd_s hl5); have Hnl := Lib.hid (own_nil_s hl5); have Hed := Lib.hid hed
      have hsb : w.heap.size + 3 ≤ w5.heap.size := by omega
      have Hpb := Lib.hid hpb
      have Hpo := Lib.hid (show ∀ x, x < w.heap.size + 3 → x ∉ (Value.slice Ap (Tx.runW c).pairs.length capp).ownBlock.toList from fun x hx hm => by have := hpb x (by simpa using hm); omega)
      obtain ⟨i0, hi0, hz0, hz1, hz2⟩ := info_parts infoPa
      have Hi := Lib.hid hi0
      have q0 := ht5.c0
      have Ht5 := Lib.hid ht5
      clear ht5 hl5 hk5 hed hpb hi0 Hen
      go_wp2_with (first
        | (at_builtin; refine wpList_append_rds rfl _ _ 23 rfl (w.heap.size + 3) 127 i0 _ 2 16 descPas Hi.out hz0 hz1 hz2 rfl (by decide) _ (Tx.runW c).pairs.length (pcs (Tx.runW c).pairs) rfl Hp5.out w5.heap.size Al P2.length capl (pcs P2) rfl (pcs_length P2) Hnl.out Hrl.out (pcs_one P2) (by unfold maxLen; omega) (by omega) hsb ?_; intro v9 w9 hown9 hg9; obtain ⟨A9, cap9, rfl⟩ := own_size hown9; have Hkg := Lib.hid (show Keep ((Value.slice Ap (Tx.runW c).pairs.length capp).ownBlock.toList) w5 w9 from Keep.grown hg9); have ht9 := Ht5.out.keep Hkg.out (Hpo.out _ (by omega)); have q1 := ht9.c0; have q2 := ht9.f 0; have q3 := ht9.c1; have q4 := ht9.f 1; have Ht9 := Lib.hid ht9; have Hown9 := Lib.hid hown9; clear ht9 hown9 hg9)
        | (go_at_call 16; refine (num_calls _ _).mono ?_; rintro en wC ⟨rfl, rfl⟩))
      have hed9 := Hed.out.keep Hkg.out (Hpo.out _ (by omega))
      have hK2 : Keep [w.heap.size + 2] w9 ((w9.setCell ⟨w.heap.size + 2, 0, none⟩ (.slice A9 ((Tx.runW c).pairs.length + P2.length) cap9)).setCell ⟨w.heap.size + 2, 1, none⟩ (.int .i64 E2)) := (Keep.set w9 0 _).trans (Keep.set _ 1 _)
      have hed10 := hed9.keep hK2 (by simp)
      have ht10 := (Ht9.out.s0 (.slice A9 ((Tx.runW c).pairs.length + P2.length) cap9)).s1 E2
      have hres10 := (He5.out.keep Hkg.out (Hpo.out _ (by omega))).keep hK2 (by simp)
      have hsz9 := Hkg.out.size
      have hown10 := own_keep_s Hown9.out hK2 (fun g hg hm => by have := (own_blk Hown9.out hg).1; simp at hm; omega)
      have hb10 := Hb5.out.trans ((Hkg.out.below (by omega) (fun x hm => by have := Hpb.out x (by simpa using hm); omega)).trans (hK2.below (B := w.heap.size) (by omega) (by simp)))
      clear hK2 hed9
      generalize (w9.setCell ⟨w.heap.size + 2, 0, none⟩ (.slice A9 ((Tx.runW c).pairs.length + P2.length) cap9)).setCell ⟨w.heap.size + 2, 1, none⟩ (.int .i64 E2) = wA at *
      have f2 := ht10.f 2; have f3 := ht10.f 3; have g2 := ht10.c2; have g3 := ht10.c3
      have Hed2 := Lib.hid hed10; have Hto := Lib.hid ht10; have Hre := Lib.hid hres10; have HoA := Lib.hid hown10; have HbA := Lib.hid hb10
      clear hed10 ht10 hres10 hown10 hb10
      refine (N_calls (w.heap.size + 1) rv _ _ _ _ _ wA Hed2.out).mono ?_
      rintro en wB ⟨rfl, rfl⟩
      go_wp2_with fail
      have hedB := Hed2.out.other (show w.heap.size + 2 ≠ w.heap.size + 1 by omega) (o := 2) (v := .int .i64 N2)
      refine (Line_calls (w.heap.size + 1) rv _ _ _ _ _ _ hedB).mono ?_
      rintro en wB ⟨rfl, rfl⟩
      have htB := (Hto.out.s2 N2).s3 F2
      have g0 := htB.c0; have g1 := htB.c1; have g2' := htB.c2; have g3' := htB.c3
      have r0 := Hre.out.c0; have r1 := Hre.out.c1; have r2 := Hre.out.c2; have r3 := Hre.out.c3
      have s0 := Hre.out.f 0; have s1 := Hre.out.f 1; have s2 := Hre.out.f 2; have s3 := Hre.out.f 3
      have t0 := Hto.out.c0; have t1 := Hto.out.c1
      have n1 : w.heap.size ≠ w.heap.size + 1 + 1 := by omega
      have n2 : w.heap.size ≠ w.heap.size + 2 := by omega
      go_wp2_with fail
      have hK4 : Keep [w.heap.size + 2] wB ((wB.setCell ⟨w.heap.size + 2, 2, none⟩ (.int .i64 N2)).setCell ⟨w.heap.size + 2, 3, none⟩ (.int .i64 F2)) := (Keep.set wB 2 _).trans (Keep.set _ 3 _)
      have hfin := fin_told (Hre.out.keep hK4 (by simp)) (.slice A9 ((Tx.runW c).pairs.length + P2.length) cap9) E2 N2 F2
      refine bodyPost_ret (results_cell2 rfl _ _ w.heap.size 48 _ (0, 0) rfl hfin.1 told_desc told_size) rfl ?_
      obtain ⟨f1, f2', f3', f4⟩ := Hon.out
      unfold ScannedSaid
      rw [f1, f2', f3', f4, List.length_append, pcs_append]
      have ho2 := own_keep_s (own_keep_s HoA.out hK4 (fun g hg hm => by have := (own_blk HoA.out hg).1; simp at hm; omega)) hfin.2 (fun g hg hm => by have := (own_blk HoA.out hg).1; simp at hm; omega)
      refine ⟨_, _, rfl, own_base_s ho2 (by omega), HbA.out.trans ((hK4.below (by have := HbA.out.size; omega) (by simp)).trans (hfin.2.below (by have := hK4.size; have := HbA.out.size; omega) (by simp)))⟩
    · have hgt : (0 : Int) < (d.length : Int) := by omega
      obtain ⟨a1, rfl⟩ : ∃ a, A1 = some a := by
        cases A1 with
        | none => have := hS.nil rfl; omega
        | some a => exact ⟨a, rfl⟩
      obtain ⟨T, hT, hTe⟩ : ∃ T : Nat, T ≤ d.length ∧ True := ⟨0, by omega, trivial⟩
      clear hS
      have hLc : d.length ≤ cap1 := HS.out.hcap
      obtain ⟨L, hL⟩ : ∃ L : Nat, L = d.length := ⟨_, rfl⟩
      rw [← hL] at hgt hdl hLc ⊢
      have HL := Lib.hid hL
      clear hL hd hT hTe
      go_upto_region 9 with fail
      go_cut [33] (fun v w' => v = .bool (decide (i < n' ∧ i < 200)) ∧ wr = w')
      case first =>
        by_cases h1 : i < n'
        · have t1 : (i : Int) < (n' : Int) := by omega
          by_cases h2 : i < 200
          · have t2 : (i : Int) < 200 := by omega
            go_wp2_with fail
            go_meet
            exact ⟨by rw [decide_eq_true (show i < n' ∧ i < 200 from ⟨h1, h2⟩)], rfl⟩
          · have t2 : ¬ (i : Int) < 200 := by omega
            go_wp2_with fail
            go_meet
            exact ⟨by rw [decide_eq_false (show ¬ (i < n' ∧ i < 200) from fun h => h2 h.2)], rfl⟩
        · have t1 : ¬ (i : Int) < (n' : Int) := by omega
          go_wp2_with fail
          go_meet
          exact ⟨by rw [decide_eq_false (show ¬ (i < n' ∧ i < 200) from fun h => h1 h.1)], rfl⟩
      case rest =>
        obtain ⟨rfl, rfl⟩ := hcut
        go_upto_if 33 with fail
        go_cut [9] (fun v w' => ∃ T : Nat, v = .int .i64 (T : Int) ∧ T ≤ L ∧ (T = L ∨ i < 200) ∧ wr = w')
        case first =>
          by_cases hh : i < n' ∧ i < 200
          · rw [decide_eq_true hh]
            obtain ⟨z, hz⟩ : ∃ z, zs[i]? = some z := ⟨zs[i]'(by rw [← Hn'.out]; omega), List.getElem?_eq_getElem _⟩
            obtain ⟨bb, off, rfl, hbb, hcell⟩ := (Hr'.out.below HS.out.below hB') i (VI z) (by rw [List.getElem?_map, hz]; rfl)
            have t1 : (i : Int) < (n' : Int) := by omega
            obtain ⟨T, hT, hTe⟩ := rem_cut z L hdl
            have b1 := Int.tmod_lt_of_pos z (show (0 : Int) < (L : Int) + 1 by omega)
            have b2 := Int.lt_tmod_of_pos z (show (0 : Int) < (L : Int) + 1 by omega)
            have nz : ((L : Int) + 1 == 0) = false := by simp; omega
            have nz2 : (L : Int) + 1 ≠ 0 := by omega
            have h200 := hh.2
            have HTe := Lib.hid hTe
            clear hz hh hTe
            go_wp2_with fail
            go_meet
            exact ⟨T, by rw [HTe.out], hT, Or.inr h200, rfl⟩
          · rw [decide_eq_false hh]
            clear hh
            go_wp2_with fail
            go_meet
            exact ⟨L, rfl, Nat.le_refl _, Or.inl rfl, rfl⟩
        case rest =>
          obtain ⟨T, rfl, hT, hT2, rfl⟩ := hcut
          have hkW := Tx.run_k 0 false (Tx.whole c)
          have hpW := Tx.run_e_pairs 0 false (Tx.whole c)
          have hwt := Tx.whole_tail_length c
          have hkc : (Tx.runW c).k ≤ 65536 := by show (Tx.run 0 false (Tx.whole c)).k ≤ _; omega
          have hpc : (Tx.runW c).pairs.length ≤ 65536 := by show (Tx.run 0 false (Tx.whole c)).pairs.length ≤ _; omega
          have htc : (Tx.tail c).length ≤ 65536 := by omega
          have hszr := HS.out.size
          have hg0 : ∀ a, Ar = some a → a.block ≠ w.heap.size + 1 := by
            rintro a rfl h
            have := (own_blk HS.out.rest (g := a.block) rfl).1
            omega
          have hfe := Feed_calls (w.heap.size + 1) Ar (Tx.tail c).length capr (w.heap.size + 3) (Tx.tail c) (Tx.runW c).k 0 (Tx.runW c).n (Tx.runW c).begun (some a1) T cap1 B (d.take T) wr HS.out.ed HS.out.rest hg0 hszr (by rw [List.length_take, ← HL.out]; omega) (by omega) (by omega) (by intro h; cases h) (by omega) (rd_take T HS.out.rd) (by omega) (by omega) (by omega)
          have Hon := Lib.hid (Tx.runW_on (d.take T) HS.out.ok)
          have hkX := Tx.run_e_pairs (Tx.runW c).n (Tx.runW c).begun (Tx.whole (Tx.tail c ++ d.take T))
          have hkX2 := Tx.run_k (Tx.runW c).n (Tx.runW c).begun (Tx.whole (Tx.tail c ++ d.take T))
          have hwt2 := Tx.whole_tail_length (Tx.tail c ++ d.take T)
          have htl := Tx.tail_append c (d.take T)
          have hpX : (Tx.run (Tx.runW c).n (Tx.runW c).begun (Tx.whole (Tx.tail c ++ d.take T))).pairs.length ≤ 200000 := by simp at hwt2; omega
          have hkX3 : (Tx.run (Tx.runW c).n (Tx.runW c).begun (Tx.whole (Tx.tail c ++ d.take T))).k ≤ 200000 := by simp at hwt2; omega
          rw [← htl] at hfe
          generalize Tx.run (Tx.runW c).n (Tx.runW c).begun (Tx.whole (Tx.tail c ++ d.take T)) = X at *
          obtain ⟨Xp, Xe, Xk, Xn, Xb⟩ := X
          dsimp only at hfe Hon hpX hkX3
          have Hfe := Lib.hid hfe
          have Htl := Lib.hid htl
          clear hkW hpW hwt hkX hkX2 hwt2 hfe hg0 htl
          go_wp2_with fail
          refine (Hfe.out).mono ?_
          rintro en w5 ⟨Al, capl, rfl, hl5, hk5, hcase⟩
          have hsz5 := hk5.size
          have hrb : ∀ g, (Value.slice Ar (Tx.tail c).length capr).ownBlock = some g → w.heap.size + 3 ≤ g := fun g hg => (own_blk HS.out.rest hg).1
          have hpb : ∀ g, (Value.slice Ap (Tx.runW c).pairs.length capp).ownBlock = some g → w.heap.size + 3 ≤ g := fun g hg => (own_blk HS.out.pairs hg).1
          have hp5 : w5.ownsRow (w.heap.size + 3) 127 2 (.slice Ap (Tx.runW c).pairs.length capp) (Tx.runW c).pairs.length (pcs (Tx.runW c).pairs) := own_keep_s HS.out.pairs hk5 (by
            intro g hg hm
            rcases List.mem_cons.1 hm with h | h
            · have := hpb g hg; omega
            · exact own_ne_own HS.out.rest HS.out.pairs (by decide) g (by simpa using h) hg)
          have hns : ∀ x, x < w.heap.size + 3 → x ≠ w.heap.size + 1 → x ∉ (w.heap.size + 1) :: (Value.slice Ar (Tx.tail c).length capr).ownBlock.toList := by
            intro x h1 h2 hm
            rcases List.mem_cons.1 hm with h | h
            · exact h2 h
            · have := hrb x (by simpa using h); omega
          have ht5 := HS.out.told.keep hk5 (hns _ (by omega) (by omega))
          have he5 := HS.out.res.keep hk5 (hns _ (by omega) (by omega))
          have hb5 : Below w.heap.size w w5 := HS.out.below.trans (hk5.below (by omega) (by
            intro x hm
            rcases List.mem_cons.1 hm with h | h
            · omega
            · have := hrb x (by simpa using h); omega))
          have hd5 : Rd w5 B (some a1) (d.map V8) := rd_over HS.out.rd (by omega) hk5 (by
            intro x hm
            rcases List.mem_cons.1 hm with h | h
            · omega
            · have := hrb x (by simpa using h); omega)
          have hrl := own_rd_s hl5; have hnl := own_nil_s hl5
          have Hp5 := Lib.hid hp5; have Ht5 := Lib.hid ht5; have He5 := Lib.hid he5; have Hb5 := Lib.hid hb5; have Hrl := Lib.hid hrl; have Hnl := Lib.hid hnl; have Hcase := Lib.hid hcase; have Hd5 := Lib.hid hd5
          have hsb : w.heap.size + 3 ≤ w5.heap.size := by omega
          have Hpb := Lib.hid hpb
          have Hpo := Lib.hid (show ∀ x, x < w.heap.size + 3 → x ∉ (Value.slice Ap (Tx.runW c).pairs.length capp).ownBlock.toList from fun x hx hm => by have := hpb x (by simpa using hm); omega)
          obtain ⟨i0, hi0, hz0, hz1, hz2⟩ := info_parts infoPa
          have Hi := Lib.hid hi0
          have q0 := ht5.c0
          clear hp5 ht5 he5 hb5 hl5 hrl hnl hcase hk5 hrb hpb hns Hfe hi0 hd5
          have hi200 : i ≤ 200 := by
            rcases hi2 with h | h
            · exact h
            · have := HL.out; rw [h] at this; simp at this; omega
          by_cases he : Xe = 0
          · subst he
            go_wp2_with (first
            | (at_builtin; refine wpList_append_rds rfl _ _ 23 rfl (w.heap.size + 3) 127 i0 _ 2 16 descPas Hi.out hz0 hz1 hz2 rfl (by decide) _ (Tx.runW c).pairs.length (pcs (Tx.runW c).pairs) rfl Hp5.out w5.heap.size Al Xp.length capl (pcs Xp) rfl (pcs_length Xp) Hnl.out Hrl.out (pcs_one Xp) (by unfold maxLen; omega) (by omega) hsb ?_; intro v9 w9 hown9 hg9; obtain ⟨A9, cap9, rfl⟩ := own_size hown9; have Hkg := Lib.hid (show Keep ((Value.slice Ap (Tx.runW c).pairs.length capp).ownBlock.toList) w5 w9 from Keep.grown hg9); have ht9 := Ht5.out.keep Hkg.out (Hpo.out _ (by omega)); have q1 := ht9.c0; have q2 := ht9.f 0; have q3 := ht9.c1; have q4 := ht9.f 1; have Ht9 := Lib.hid ht9; have Hown9 := Lib.hid hown9; clear ht9 hown9 hg9)
            | (go_at_call 16; refine (num_calls _ _).mono ?_; rintro en wC ⟨rfl, rfl⟩))
            go_roundw
            have hk9 : Keep [w.heap.size + 2] w9 ((w9.setCell ⟨w.heap.size + 2, 0, none⟩ (.slice A9 ((Tx.runW c).pairs.length + Xp.length) cap9)).setCell ⟨w.heap.size + 2, 1, none⟩ (.int .i64 0)) := (Keep.set w9 0 _).trans (Keep.set _ 1 _)
            obtain ⟨Ar2, capr2, hed, hrest⟩ : ∃ Ar2 capr2, EdIs w5 (w.heap.size + 1) (.slice Ar2 (Tx.tail (c ++ d.take T)).length capr2) ((Tx.runW c).k + Xk) 0 Xn Xb false ∧ w5.ownsRow wr.heap.size 5 1 (.slice Ar2 (Tx.tail (c ++ d.take T)).length capr2) (Tx.tail (c ++ d.take T)).length ((Tx.tail (c ++ d.take T)).map V8) := by
              rcases Hcase.out with ⟨_, Ar2, capr2, h1, h2⟩ | ⟨h, _⟩
              · exact ⟨Ar2, capr2, h1, h2⟩
              · exact absurd rfl h
            have hsz9 := Hkg.out.size
            have hrest9 := own_keep_s hrest Hkg.out (fun g hg hm => own_ne_own hrest Hp5.out (by decide) g hg (by simpa using hm))
            have hrest10 := own_keep_s hrest9 hk9 (fun g hg hm => by have := (own_blk hrest hg).1; simp at hm; omega)
            have hed9 := hed.keep Hkg.out (Hpo.out _ (by omega))
            have hpair10 := own_keep_s Hown9.out hk9 (fun g hg hm => by have := (own_blk Hown9.out hg).1; simp at hm; omega)
            have hd9 := rd_over Hd5.out (by omega) Hkg.out (fun x hm => by have := Hpb.out x (by simpa using hm); omega)
            have hd10 := rd_over hd9 (by omega) hk9 (fun x hm => by simp at hm; omega)
            have hon := Hon.out
            case rel =>
              refine ⟨i + 1, c ++ d.take T, d.drop T, (if cap1 = T then some a1 else some (a1.add T)), cap1 - T, Ar2, capr2, A9, cap9, by rw [List.length_drop, ← HL.out], by congr 1, by omega, by omega, ?_, ?_⟩
              · rcases hT2 with h | h
                · right; rw [h, HL.out]; exact List.drop_eq_nil_of_le (Nat.le_refl _)
                · left; omega
              · have hk2 : (Tx.runW (c ++ d.take T)) = ⟨(Tx.runW c).pairs ++ Xp, 0, (Tx.runW c).k + Xk, Xn, Xb⟩ := hon
                refine ⟨by rw [List.append_assoc, List.take_append_drop]; exact HS.out.eq, ?_, by rw [List.length_drop, ← HL.out]; omega, ?_, by rw [hk2], ?_, own_base_s hrest10 hszr, ?_, ?_, ?_, ?_, ?_⟩
                · exact rd_from hd10 HS.out.hcap
                · intro h; split at h <;> cases h
                · rw [hk2]
                  have := (hed9.other (show w.heap.size + 2 ≠ w.heap.size + 1 by omega) (o := 0) (v := .slice A9 ((Tx.runW c).pairs.length + Xp.length) cap9)).other (show w.heap.size + 2 ≠ w.heap.size + 1 by omega) (o := 1) (v := .int .i64 0)
                  simpa using this
                · rw [hk2]
                  have := (Ht9.out.s0 (.slice A9 ((Tx.runW c).pairs.length + Xp.length) cap9)).s1 0
                  simpa using this
                · rw [hk2, List.length_append, pcs_append]; exact hpair10
                · exact (He5.out.keep Hkg.out (Hpo.out _ (by omega))).keep hk9 (by simp)
                · exact Hb5.out.trans ((Hkg.out.below (by omega) (fun x hm => by have := Hpb.out x (by simpa using hm); omega)).trans (hk9.below (by omega) (by simp)))
                · exact Nat.le_trans (show w.heap.size + 3 ≤ w9.heap.size by omega) hk9.size
            case measure =>
              show (200 - ((i : Int) + 1).toNat) + (L - T) < (200 - (i : Int).toNat) + L
              rcases hT2 with h | h <;> omega
          · have hne : (Xe != 0) = true := by simpa using he
            have HE := Lib.hid he
            clear he
            go_wp2_with (first
            | (at_builtin; refine wpList_append_rds rfl _ _ 23 rfl (w.heap.size + 3) 127 i0 _ 2 16 descPas Hi.out hz0 hz1 hz2 rfl (by decide) _ (Tx.runW c).pairs.length (pcs (Tx.runW c).pairs) rfl Hp5.out w5.heap.size Al Xp.length capl (pcs Xp) rfl (pcs_length Xp) Hnl.out Hrl.out (pcs_one Xp) (by unfold maxLen; omega) (by omega) hsb ?_; intro v9 w9 hown9 hg9; obtain ⟨A9, cap9, rfl⟩ := own_size hown9; have Hkg := Lib.hid (show Keep ((Value.slice Ap (Tx.runW c).pairs.length capp).ownBlock.toList) w5 w9 from Keep.grown hg9); have ht9 := Ht5.out.keep Hkg.out (Hpo.out _ (by omega)); have q1 := ht9.c0; have q2 := ht9.f 0; have q3 := ht9.c1; have q4 := ht9.f 1; have Ht9 := Lib.hid ht9; have Hown9 := Lib.hid hown9; clear ht9 hown9 hg9)
            | (go_at_call 16; refine (num_calls _ _).mono ?_; rintro en wC ⟨rfl, rfl⟩))
            have hed : ∃ rv, EdIs w5 (w.heap.size + 1) rv ((Tx.runW c).k + Xk) ((Tx.runW c).k + Xk) Xn Xb true := by
              rcases Hcase.out with ⟨h, _⟩ | ⟨_, h⟩
              · exact absurd h HE.out
              · exact h
            obtain ⟨rv, hed⟩ := hed
            have hed9 := hed.keep Hkg.out (Hpo.out _ (by omega))
            have hed10 := (hed9.other (show w.heap.size + 2 ≠ w.heap.size + 1 by omega) (o := 0) (v := .slice A9 ((Tx.runW c).pairs.length + Xp.length) cap9)).other (show w.heap.size + 2 ≠ w.heap.size + 1 by omega) (o := 1) (v := .int .i64 Xe)
            have ht10 := (Ht9.out.s0 (.slice A9 ((Tx.runW c).pairs.length + Xp.length) cap9)).s1 Xe
            have hres10 := (He5.out.keep Hkg.out (Hpo.out _ (by omega))).keep ((Keep.set w9 0 (.slice A9 ((Tx.runW c).pairs.length + Xp.length) cap9) (g := w.heap.size + 2)).trans (Keep.set _ 1 (.int .i64 Xe))) (by simp)
            have hsz9 := Hkg.out.size
            have hown10 := own_keep_s Hown9.out ((Keep.set w9 0 (.slice A9 ((Tx.runW c).pairs.length + Xp.length) cap9) (g := w.heap.size + 2)).trans (Keep.set _ 1 (.int .i64 Xe))) (fun g hg hm => by have := (own_blk Hown9.out hg).1; simp at hm; omega)
            have hb10 := Hb5.out.trans ((Hkg.out.below (by omega) (fun x hm => by have := Hpb.out x (by simpa using hm); omega)).trans (((Keep.set w9 0 (.slice A9 ((Tx.runW c).pairs.length + Xp.length) cap9) (g := w.heap.size + 2)).trans (Keep.set _ 1 (.int .i64 Xe))).below (B := w.heap.size) (by omega) (by simp)))
            generalize (w9.setCell ⟨w.heap.size + 2, 0, none⟩ (.slice A9 ((Tx.runW c).pairs.length + Xp.length) cap9)).setCell ⟨w.heap.size + 2, 1, none⟩ (.int .i64 Xe) = wA at *
            have f2 := ht10.f 2; have f3 := ht10.f 3; have g2 := ht10.c2; have g3 := ht10.c3
            have Hed := Lib.hid hed10; have Hto := Lib.hid ht10; have Hre := Lib.hid hres10; have HoA := Lib.hid hown10; have HbA := Lib.hid hb10
            clear hed hed9 hed10 ht10 hres10 hown10 hb10
            refine (N_calls (w.heap.size + 1) rv _ _ _ _ _ wA Hed.out).mono ?_
            rintro en wB ⟨rfl, rfl⟩
            go_wp2_with fail
            have hedB := Hed.out.other (show w.heap.size + 2 ≠ w.heap.size + 1 by omega) (o := 2) (v := .int .i64 Xn)
            refine (Line_calls (w.heap.size + 1) rv _ _ _ _ _ _ hedB).mono ?_
            rintro en wB ⟨rfl, rfl⟩
            have htB := (Hto.out.s2 Xn).s3 ((Tx.runW c).k + Xk)
            have HtB := Lib.hid htB
            have g0 := htB.c0; have g1 := htB.c1; have g2' := htB.c2; have g3' := htB.c3
            have r0 := Hre.out.c0; have r1 := Hre.out.c1; have r2 := Hre.out.c2; have r3 := Hre.out.c3
            have s0 := Hre.out.f 0; have s1 := Hre.out.f 1; have s2 := Hre.out.f 2; have s3 := Hre.out.f 3
            have t0 := Hto.out.c0; have t1 := Hto.out.c1
            have n1 : w.heap.size ≠ w.heap.size + 1 + 1 := by omega
            have n2 : w.heap.size ≠ w.heap.size + 2 := by omega
            go_wp2_with fail
            have hK4 : Keep [w.heap.size + 2] wB ((wB.setCell ⟨w.heap.size + 2, 2, none⟩ (.int .i64 Xn)).setCell ⟨w.heap.size + 2, 3, none⟩ (.int .i64 ((Tx.runW c).k + Xk))) := (Keep.set wB 2 _).trans (Keep.set _ 3 _)
            have hfin := fin_told (Hre.out.keep hK4 (by simp)) (.slice A9 ((Tx.runW c).pairs.length + Xp.length) cap9) Xe Xn ((Tx.runW c).k + Xk)
            refine bodyPost_ret (results_cell2 rfl _ _ w.heap.size 48 _ (0, 0) rfl hfin.1 told_desc told_size) rfl ?_
            have hk2 : (Tx.runW (c ++ d.take T)) = ⟨(Tx.runW c).pairs ++ Xp, Xe, (Tx.runW c).k + Xk, Xn, Xb⟩ := Hon.out
            have hb : b = (c ++ d.take T) ++ d.drop T := by rw [List.append_assoc, List.take_append_drop]; exact HS.out.eq.symm
            have hRb : Tx.runW b = ⟨(Tx.runW c).pairs ++ Xp, Xe, (Tx.runW c).k + Xk, Xn, Xb⟩ := by
              rw [hb, Tx.runW_fault (d.drop T) (by rw [hk2]; exact HE.out), hk2]
            obtain ⟨f1, f2, f3, f4⟩ := Tx.all_told_fault hRb HE.out
            unfold ScannedSaid
            rw [f1, f2, f3, f4, List.length_append, pcs_append]
            have ho2 := own_keep_s (own_keep_s HoA.out hK4 (fun g hg hm => by have := (own_blk HoA.out hg).1; simp at hm; omega)) hfin.2 (fun g hg hm => by have := (own_blk HoA.out hg).1; simp at hm; omega)
            refine ⟨_, _, rfl, own_base_s ho2 (by omega), HbA.out.trans ((hK4.below (by have := HbA.out.size; omega) (by simp)).trans (hfin.2.below (by have := hK4.size; have := HbA.out.size; omega) (by simp)))⟩
end Go.Proofs.YtmeoafodcniliaaGreatDoor.C4
