/- the reference's Read -/
import Derived.Test.YtgoobadkbndfgaaDoorRfB
import Derived.Test.YtgoobadkbndfgaaDoorTxB
namespace Go.Proofs.YtgoobadkbndfgaaDoor
open Go.RowKit
set_option linter.unusedSimpArgs false
set_option linter.unusedVariables false
theorem results_cell1 {P : Program} {fn : Func} {p : Tmp} {ty : TypeId} (h : fn.results = #[.cell p ty]) (tmps : Array Value) (w : World) (g : Nat) (t : TypeId) (cs : Array Value) (fr : Nat × Nat)
    (hp : tmps.getD p undef = .pointer (some ⟨g, 0, none⟩)) (hg : w.heap[g]? = some (.cells cs t fr)) (hu : (P.underlying ty).map aggDesc = some true) (hi : (P.info? ty).map (·.size) = some cs.size) :
    (results fn tmps).run P w = .ok (.agg cs) w := by
  obtain ⟨d, h1, h2⟩ := agg_of hu
  exact results_cell_row h tmps w g t cs fr d hp hg h1 (by cases d <;> simp_all [aggDesc]) hi
/-- What a file says, in memory. -/
def FiIs (w : World) (g : Nat) (n : Int) (s : Bool) (pv : Value) (l e : Int) : Prop := w.heap[g]? = some (.cells #[.int .i64 n, .bool s, pv, .int .i64 l, .int .i64 e] 88 (0, 0))
section
variable {w : World} {g : Nat} {pv : Value} {s : Bool} {n l e : Int}
theorem FiIs.c0 (h : FiIs w g n s pv l e) : w.cell? ⟨g, 0, none⟩ = some (.int .i64 n) := by rw [cell_heap h]; rfl
theorem FiIs.c1 (h : FiIs w g n s pv l e) : w.cell? ⟨g, 1, none⟩ = some (.bool s) := by rw [cell_heap h]; rfl
theorem FiIs.c2 (h : FiIs w g n s pv l e) : w.cell? ⟨g, 2, none⟩ = some pv := by rw [cell_heap h]; rfl
theorem FiIs.c3 (h : FiIs w g n s pv l e) : w.cell? ⟨g, 3, none⟩ = some (.int .i64 l) := by rw [cell_heap h]; rfl
theorem FiIs.c4 (h : FiIs w g n s pv l e) : w.cell? ⟨g, 4, none⟩ = some (.int .i64 e) := by rw [cell_heap h]; rfl
theorem FiIs.f (h : FiIs w g n s pv l e) (o : Nat) : w.frozen? ⟨g, o, none⟩ = false := by unfold FiIs at h; simp [World.frozen?, h]
theorem FiIs.lt (h : FiIs w g n s pv l e) : g < w.heap.size := lt_heap h
theorem FiIs.s0 (h : FiIs w g n s pv l e) (x : Int) : FiIs (w.setCell ⟨g, 0, none⟩ (.int .i64 x)) g x s pv l e := by unfold FiIs; rw [heap_set h]; rfl
theorem FiIs.s1 (h : FiIs w g n s pv l e) (x : Bool) : FiIs (w.setCell ⟨g, 1, none⟩ (.bool x)) g n x pv l e := by unfold FiIs; rw [heap_set h]; rfl
theorem FiIs.s2 (h : FiIs w g n s pv l e) (x : Value) : FiIs (w.setCell ⟨g, 2, none⟩ x) g n s x l e := by unfold FiIs; rw [heap_set h]; rfl
theorem FiIs.s3 (h : FiIs w g n s pv l e) (x : Int) : FiIs (w.setCell ⟨g, 3, none⟩ (.int .i64 x)) g n s pv x e := by unfold FiIs; rw [heap_set h]; rfl
theorem FiIs.s4 (h : FiIs w g n s pv l e) (x : Int) : FiIs (w.setCell ⟨g, 4, none⟩ (.int .i64 x)) g n s pv l x := by unfold FiIs; rw [heap_set h]; rfl
theorem FiIs.keep {w' : World} {ks : List Nat} (h : FiIs w g n s pv l e) (hk : Keep ks w w') (hn : g ∉ ks) : FiIs w' g n s pv l e := (hk.block g (lt_heap h) hn).trans h
theorem FiIs.below {w' : World} (h : FiIs w g n s pv l e) {B : Nat} (hk : Below B w w') (hn : g < B) : FiIs w' g n s pv l e := (hk.block g hn).trans h
end
theorem file_desc : (Tryd.prog.underlying 88).map aggDesc = some true := by kernel_rfl
theorem file_size : (Tryd.prog.info? 88).map (·.size) = some 5 := by kernel_rfl
theorem fin_file {w : World} {g : Nat} {pv : Value} {s : Bool} {n l e : Int} (h : FiIs w g n s pv l e) (n' : Int) (s' : Bool) (pv' : Value) (l' e' : Int) :
    FiIs (((((w.setCell ⟨g, 0, none⟩ (.int .i64 n')).setCell ⟨g, 1, none⟩ (.bool s')).setCell ⟨g, 2, none⟩ pv').setCell ⟨g, 3, none⟩ (.int .i64 l')).setCell ⟨g, 4, none⟩ (.int .i64 e')) g n' s' pv' l' e' ∧
    Keep [g] w (((((w.setCell ⟨g, 0, none⟩ (.int .i64 n')).setCell ⟨g, 1, none⟩ (.bool s')).setCell ⟨g, 2, none⟩ pv').setCell ⟨g, 3, none⟩ (.int .i64 l')).setCell ⟨g, 4, none⟩ (.int .i64 e')) :=
  ⟨((((h.s0 n').s1 s').s2 pv').s3 l').s4 e', ((((Keep.set w 0 _).trans (Keep.set _ 1 _)).trans (Keep.set _ 2 _)).trans (Keep.set _ 3 _)).trans (Keep.set _ 4 _)⟩
namespace Tx
/-- What the reference's turn of a line answers, as the scanner's. -/
theorem scan_head (n : Int) (ws : List (List By)) (h : ws ≠ []) : (head ws).2 = (scan n false ws).e ∧ ((scan n false ws).e = 0 → (scan n false ws).n = (head ws).1 ∧ (scan n false ws).begun = true) ∧ ((scan n false ws).e ≠ 0 → (scan n false ws).n = n ∧ (scan n false ws).begun = false ∧ (head ws).1 = 0) ∧ (scan n false ws).says = false := by
  match ws, h with
  | [a], _ => simp [head, scan]
  | [a, b], _ =>
    by_cases h1 : a = vertices
    · cases hb : (num b).2 with
      | false => simp [head, scan, h1, hb]
      | true =>
        by_cases h2 : 16777216 < (num b).1
        · simp [head, scan, h1, hb, h2]
        · simp [head, scan, h1, hb, h2]
    · simp [head, scan, h1]
  | a :: b :: c :: r, _ => simp [head, scan]
theorem scan_begun (n : Int) (ws : List (List By)) : (scan n true ws).begun = true := by
  match ws with
  | [] => rfl
  | [a] => rfl
  | [a, b] => rfl
  | a :: b :: c :: r => rfl
theorem scan_says (n : Int) (b : Bool) (ws : List (List By)) (h : (scan n b ws).e ≠ 0) : (scan n b ws).says = false := by
  match ws, h with
  | [], h => rfl
  | [a], h => rfl
  | [x, y], h =>
    unfold scan at h ⊢
    dsimp only at h ⊢
    cases b with
    | true =>
      rw [if_pos rfl] at h ⊢
      dsimp only at h ⊢
      exact decide_eq_false h
    | false =>
      rw [if_neg (by simp)]
      by_cases h1 : x ≠ vertices ∨ (num y).2 = false
      · rw [if_pos h1]
      · rw [if_neg h1]
        by_cases h2 : 16777216 < (num y).1
        · rw [if_pos h2]
        · rw [if_neg h2]
  | a :: b :: c :: r, h => rfl
theorem scan_two (n : Int) (a b : List By) : scan n true [a, b] = ⟨(two a b n).1, (two a b n).2.1, decide ((two a b n).2.2 = 0), (two a b n).2.2, n, true⟩ := by simp [scan]
theorem scan_other (n : Int) (ws : List (List By)) (h : ws ≠ []) (h2 : ws.length ≠ 2) : scan n true ws = ⟨0, 0, false, 40, n, true⟩ := by
  match ws, h, h2 with
  | [a], _, _ => simp [scan]
  | [a, b], _, h2 => exact absurd rfl h2
  | a :: b :: c :: r, _, _ => simp [scan]
end Tx
/-- What Read answers. -/
def ReadSaid (R : Tx.Run) (w : World) (en : Ending) (w' : World) : Prop :=
  ∃ Ap capp, en = .returned (.agg #[.int .i64 R.n, .bool R.begun, .slice Ap R.pairs.length capp, .int .i64 (R.fEnd 0 0), .int .i64 R.eEnd]) ∧
    w'.ownsRow w.heap.size 76 2 (.slice Ap R.pairs.length capp) R.pairs.length (pcs R.pairs) ∧ Below w.heap.size w w'
/-- What holds at a round's start. -/
structure RdS (w : World) (lv : Value) (LS : List (List (BitVec 8))) (wr : World) (P : List (Int × Int)) (N : Int) (b : Bool) (Ap : Option Addr) (capp : Nat) : Prop where
  file : FiIs wr (w.heap.size + 1) N b (.slice Ap P.length capp) 0 0
  res : FiIs wr w.heap.size 0 false (.slice none 0 0) 0 0
  pairs : wr.ownsRow (w.heap.size + 2) 76 2 (.slice Ap P.length capp) P.length (pcs P)
  lines : wr.ownsRow (w.heap.size + 2) 9 1 lv LS.length (LS.map SS)
  below : Below w.heap.size w wr
  size : w.heap.size + 2 ≤ wr.heap.size
section
variable {w wr w' : World} {lv : Value} {LS : List (List (BitVec 8))} {P : List (Int × Int)} {N : Int} {b : Bool} {Ap : Option Addr} {capp : Nat}
theorem RdS.on (h : RdS w lv LS wr P N b Ap capp) (hb : Below wr.heap.size wr w') : RdS w lv LS w' P N b Ap capp :=
  ⟨h.file.below hb h.file.lt, h.res.below hb h.res.lt, own_below_s h.pairs hb (Nat.le_refl _), own_below h.lines hb (Nat.le_refl _), h.below.trans (hb.mono (by have := h.size; omega)), Nat.le_trans h.size hb.size⟩
theorem RdS.set (h : RdS w lv LS wr P N b Ap capp) (o : Nat) (x : Value) {N' : Int} {b' : Bool} (hf : FiIs (wr.setCell ⟨w.heap.size + 1, o, none⟩ x) (w.heap.size + 1) N' b' (.slice Ap P.length capp) 0 0) : RdS w lv LS (wr.setCell ⟨w.heap.size + 1, o, none⟩ x) P N' b' Ap capp := by
  have hk : Keep [w.heap.size + 1] wr (wr.setCell ⟨w.heap.size + 1, o, none⟩ x) := Keep.set wr o x
  have hs := h.size
  exact ⟨hf, h.res.keep hk (by simp), own_keep_s h.pairs hk (fun g hg2 hm => by have := (own_blk h.pairs hg2).1; simp at hm; omega), own_keep h.lines hk (fun g hg2 hm => by have := (own_blk h.lines hg2).1; simp at hm; omega), h.below.trans (hk.below (by omega) (by simp)), Nat.le_trans hs hk.size⟩
/-- Behind an append to the pairs, and its store. -/
theorem RdS.grow (h : RdS w lv LS wr P N b Ap capp) {P2 : List (Int × Int)} {A2 : Option Addr} {cap2 : Nat} (hg : wr.grownBy w' (Value.slice Ap P.length capp).ownBlock) (hp : w'.ownsRow (w.heap.size + 2) 76 2 (.slice A2 P2.length cap2) P2.length (pcs P2)) :
    FiIs w' (w.heap.size + 1) N b (.slice Ap P.length capp) 0 0 ∧ RdS w lv LS (w'.setCell ⟨w.heap.size + 1, 2, none⟩ (.slice A2 P2.length cap2)) P2 N b A2 cap2 := by
  have hk := Keep.grown hg
  have hs := h.size
  have hn : ∀ x, x < w.heap.size + 2 → x ∉ (Value.slice Ap P.length capp).ownBlock.toList := fun x hx hm => by
    have := (own_blk h.pairs (g := x) (by simpa using hm)).1; omega
  have hf := h.file.keep hk (hn _ (by omega))
  have hl : w'.ownsRow (w.heap.size + 2) 9 1 lv LS.length (LS.map SS) := own_keep h.lines hk (fun g hg2 hm => by
    obtain ⟨Al, capl, rfl, _⟩ := own_form h.lines
    exact own_ne_own h.lines h.pairs (by decide) g hg2 (by simpa using hm))
  have hk2 : Keep [w.heap.size + 1] w' (w'.setCell ⟨w.heap.size + 1, 2, none⟩ (.slice A2 P2.length cap2)) := Keep.set w' 2 _
  refine ⟨hf, hf.s2 _, (h.res.keep hk (hn _ (by omega))).keep hk2 (by simp), own_keep_s hp hk2 (fun g hg2 hm => by have := (own_blk hp hg2).1; simp at hm; omega), own_keep hl hk2 (fun g hg2 hm => by have := (own_blk hl hg2).1; simp at hm; omega), ?_, Nat.le_trans hs (Nat.le_trans hk.size hk2.size)⟩
  refine h.below.trans ((hk.below (by omega) (fun x hm => ?_)).trans (hk2.below (by have := hk.size; omega) (by simp)))
  have := (own_blk h.pairs (g := x) (by simpa using hm)).1; omega
end
/-- What one line does. -/
def RdCut (w : World) (lv : Value) (LS : List (List (BitVec 8))) (P : List (Int × Int)) (sc : Tx.Sc) (s : Value) (w' : World) : Prop :=
  s = .int .i64 sc.e ∧ ∃ Ap' capp', RdS w lv LS w' (P ++ if sc.says = true then [(sc.u, sc.v)] else []) sc.n sc.begun Ap' capp'
set_option maxHeartbeats 8000000 in
set_option maxRecDepth 20000 in
theorem Read_calls (A : Option Addr) (n cap B : Nat) (bs : List (BitVec 8)) (w : World) (hn : n = bs.length) (hm : n ≤ 274877906944) (hcap : n ≤ cap) (hcm : cap ≤ 9223372036854775807) (hnil : A = none → n = 0 ∧ cap = 0) (hB : B ≤ w.heap.size) (hr : Rd w B A (bs.map V8)) :
    Calls Tryd.prog 45 #[.slice A n cap] w (ReadSaid (Tx.all bs) w) := by
  obtain ⟨i0, hi0, hz0, hz1, hz2⟩ := info_parts infoPa
  have Hi := Lib.hid hi0
  have Hn := Lib.hid hn; have Hnil := Lib.hid hnil; have Hr := Lib.hid hr
  have hll := Tx.lines_length _ bs (Nat.le_refl _)
  rw [← hn] at hll
  have Hline := Lib.hid (fun l (hl : l ∈ Tx.lines bs) => Tx.line_length _ bs (Nat.le_refl _) l hl)
  have Hall := Lib.hid (show Tx.all bs = Tx.run 0 false (Tx.lines bs) from rfl)
  clear hn hnil hr hi0
  go_enter Tryd.func45, Tryd.ntmps45
  go_wp2_with fail
  have hb2 : Below w.heap.size w ((w.alloc (.cells #[.int .i64 0, .bool false, .slice none 0 0, .int .i64 0, .int .i64 0] 88)).alloc (.cells #[.int .i64 0, .bool false, .slice none 0 0, .int .i64 0, .int .i64 0] 88)) := ((Below.refl _ _).alloc (Nat.le_refl _) _).alloc (by simp) _
  have hf2 : FiIs ((w.alloc (.cells #[.int .i64 0, .bool false, .slice none 0 0, .int .i64 0, .int .i64 0] 88)).alloc (.cells #[.int .i64 0, .bool false, .slice none 0 0, .int .i64 0, .int .i64 0] 88)) (w.heap.size + 1) 0 false (.slice none 0 0) 0 0 := by
    have := heap_alloc_new (w.alloc (.cells #[.int .i64 0, .bool false, .slice none 0 0, .int .i64 0, .int .i64 0] 88)) (.cells #[.int .i64 0, .bool false, .slice none 0 0, .int .i64 0, .int .i64 0] 88)
    unfold FiIs; rwa [World.size_alloc] at this
  have hr2 : FiIs ((w.alloc (.cells #[.int .i64 0, .bool false, .slice none 0 0, .int .i64 0, .int .i64 0] 88)).alloc (.cells #[.int .i64 0, .bool false, .slice none 0 0, .int .i64 0, .int .i64 0] 88)) w.heap.size 0 false (.slice none 0 0) 0 0 := by
    unfold FiIs; rw [Below.heap_alloc _ _ _ (by simp), heap_alloc_new]
  have hz2' : ((w.alloc (.cells #[.int .i64 0, .bool false, .slice none 0 0, .int .i64 0, .int .i64 0] 88)).alloc (.cells #[.int .i64 0, .bool false, .slice none 0 0, .int .i64 0, .int .i64 0] 88)).heap.size = w.heap.size + 2 := by simp
  generalize ((w.alloc (.cells #[.int .i64 0, .bool false, .slice none 0 0, .int .i64 0, .int .i64 0] 88)).alloc (.cells #[.int .i64 0, .bool false, .slice none 0 0, .int .i64 0, .int .i64 0] 88)) = w2 at *
  have hbs2 := Hr.out.below hb2 hB
  refine (Lines_calls A n cap B bs w2 Hn.out (by omega) hcap hcm Hnil.out (by omega) hbs2).mono ?_
  rintro en w3 ⟨Al, capl, rfl, hown3, hb3⟩
  rw [hz2'] at hown3
  have HS0 : RdS w (.slice Al (Tx.lines bs).length capl) (Tx.lines bs) w3 [] 0 false none 0 :=
    ⟨hf2.below hb3 (by omega), hr2.below hb3 (by omega), World.ownsRow_nil _ _ _ _, hown3, hb2.trans (hb3.mono (by omega)), by have := hb3.size; omega⟩
  have HS0 := Lib.hid HS0
  have hcl := own_cap hown3
  obtain ⟨LS, hLS⟩ : ∃ x, x = Tx.lines bs := ⟨_, rfl⟩
  rw [← hLS] at HS0 hll hcl Hline Hall
  rw [← hLS]
  obtain ⟨k, hk⟩ : ∃ x, x = LS.length := ⟨_, rfl⟩
  rw [← hk] at HS0 hll hcl
  rw [← hk]
  have Hk := Lib.hid hk
  obtain ⟨hcl1, hcl2⟩ := hcl
  have Hrd3 := Lib.hid hown3
  clear hb2 hf2 hr2 hz2' hbs2 hown3 hb3 hLS hk
  go_wp2_with fail
  go_loopw [5] (fun iv wr => ∃ (i : Nat) (P : List (Int × Int)) (N : Int) (b : Bool) (Ap : Option Addr) (capp : Nat), iv = .int .i64 (i : Int) ∧ RdS w (.slice Al k capl) LS wr P N b Ap capp ∧ i ≤ k ∧ P.length ≤ i ∧ (b = false → N = 0) ∧
    Tx.all bs = ⟨P ++ (Tx.run N b (LS.drop i)).pairs, (Tx.run N b (LS.drop i)).e, i + (Tx.run N b (LS.drop i)).k, (Tx.run N b (LS.drop i)).n, (Tx.run N b (LS.drop i)).begun⟩) (fun iv _ => k - (intOf iv).toNat)
  case atStart => exact ⟨0, [], 0, false, none, 0, rfl, HS0.out, by omega, by simp, fun _ => rfl, by rw [Hall.out]; simp⟩
  case round =>
    obtain ⟨i, P, N, b, Ap, capp, rfl, hS, hik, hPi, hb0, hrun⟩ := hrel
    have HS := Lib.hid hS; have Hb0 := Lib.hid hb0; have Hrun := Lib.hid hrun
    have hcp := own_cap_s hS.pairs
    clear hS hb0 hrun
    by_cases hlt : i < k
    · have q1 : (i : Int) < (k : Int) := by omega
      obtain ⟨l, hl⟩ : ∃ c, LS[i]? = some c := ⟨LS[i]'(by rw [← Hk.out]; omega), List.getElem?_eq_getElem _⟩
      have hrl := HS.out.lines
      rw [← Hk.out] at hrl
      obtain ⟨bb, off, rfl, hbb, hcell⟩ := rd_ss (own_rd hrl) hl
      clear hrl
      have hlm := Hline.out l (List.mem_of_getElem? hl)
      have hll2 : l.length ≤ 1099511627776 := by have := Hn.out; omega
      have hdrop : LS.drop i = l :: LS.drop (i + 1) := by
        rw [List.drop_eq_getElem_cons (by rw [← Hk.out]; omega)]; congr 1
        exact (List.getElem?_eq_some_iff.1 hl).2
      rw [hdrop, Tx.run_cons] at Hrun
      have Hlm := Lib.hid hlm
      clear hl hdrop hlm
      go_wp2_with fail
      refine (Words_calls l wr hll2).mono ?_
      rintro en w4 ⟨Aw, capw, rfl, hown4, hb4⟩
      have hwl : ∀ x ∈ Tx.words l, x.length ≤ 1099511627776 := by
        intro x hx
        unfold Tx.words at hx
        obtain ⟨p, hp, rfl⟩ := List.mem_map.1 hx
        unfold Tx.cutOut
        simp; omega
      have Hwl := Lib.hid hwl
      have HS4 := Lib.hid (HS.out.on hb4)
      obtain ⟨WS, hWS⟩ : ∃ x, x = Tx.words l := ⟨_, rfl⟩
      rw [← hWS] at Hrun hown4 Hwl
      rw [← hWS]
      have hcw := own_cap hown4
      have Hrw := Lib.hid (own_rd hown4)
      clear hwl hown4 hb4 HS hcell hWS
      by_cases hnil : WS = []
      · subst hnil
        have hsc : Tx.scan N b [] = ⟨0, 0, false, 0, N, b⟩ := rfl
        rw [hsc] at Hrun
        have Hrun2 := Lib.hid (show Tx.all bs = ⟨P ++ (Tx.run N b (LS.drop (i + 1))).pairs, (Tx.run N b (LS.drop (i + 1))).e, (i + 1) + (Tx.run N b (LS.drop (i + 1))).k, (Tx.run N b (LS.drop (i + 1))).n, (Tx.run N b (LS.drop (i + 1))).begun⟩ by
          have := Hrun.out
          simp only [ne_eq, not_true, if_false, List.nil_append] at this
          rw [this]
          simp only [Bool.false_eq_true, if_false, List.nil_append]
          congr 1
          omega)
        clear hsc Hrun
        go_wp2_with fail
        go_roundw
        case rel => exact ⟨i + 1, P, N, b, Ap, capp, by congr 1, HS4.out, by omega, by omega, Hb0.out, Hrun2.out⟩
        case measure => simp [intOf]; omega
      · obtain ⟨m, hm2⟩ : ∃ m, m = WS.length := ⟨_, rfl⟩
        have hm0 : m ≠ 0 := by rw [hm2]; exact fun h => hnil (List.eq_nil_of_length_eq_zero h)
        rw [← hm2]
        rw [← hm2] at hcw
        have t0 : ((m : Int) == 0) = false := by simp; exact hm0
        have Hm := Lib.hid hm2
        have Hnil2 := Lib.hid hnil
        clear hm2 hnil
        obtain ⟨sc, hsc⟩ : ∃ x, x = Tx.scan N b WS := ⟨_, rfl⟩
        rw [← hsc] at Hrun
        have Hsc := Lib.hid hsc
        clear hsc
        have f1 := HS4.out.file.c1; have f0 := HS4.out.file.c0; have f2 := HS4.out.file.c2
        have z0 := HS4.out.file.f 0; have z1 := HS4.out.file.f 1; have z2 := HS4.out.file.f 2
        go_upto_if 30 with fail
        go_cut [7] (RdCut w (.slice (some ⟨bb, off, none⟩) k capl) LS P sc)
        case first =>
          cases b with
          | false =>
            have hN := Hb0.out rfl
            subst hN
            obtain ⟨h1, h2, h3, h4⟩ := Tx.scan_head 0 WS Hnil2.out
            rw [← Hsc.out] at h1 h2 h3 h4
            have Hhd := Lib.hid (head_calls Aw m capw w4.heap.size WS w4 Hm.out Hwl.out Hrw.out)
            generalize Tx.head WS = hd at *
            obtain ⟨d1, d2⟩ := hd
            dsimp only at h1 h2 h3 Hhd
            have H1 := Lib.hid h1; have H2 := Lib.hid h2; have H3 := Lib.hid h3; have H4 := Lib.hid h4
            clear h1 h2 h3 h4
            go_wp2_with fail
            refine (Hhd.out).mono ?_
            rintro en w5 ⟨rfl, rfl⟩
            by_cases hd2 : d2 = 0
            · subst hd2
              have Hfin := Lib.hid (H2.out H1.out.symm)
              go_wp2_with fail
              go_meet
              have hs1 := HS4.out.set 0 (.int .i64 d1) (HS4.out.file.s0 d1)
              have hs2 := hs1.set 1 (.bool true) (hs1.file.s1 true)
              unfold RdCut
              rw [← H1.out, H4.out, Hfin.out.1, Hfin.out.2]
              exact ⟨rfl, Ap, capp, by simpa using hs2⟩
            · have t1 : (d2 == 0) = false := by simpa using hd2
              have Hfin := Lib.hid (H3.out (by rw [← H1.out]; exact hd2))
              clear hd2
              go_wp2_with fail
              go_meet
              have hs1 := HS4.out.set 0 (.int .i64 d1) (HS4.out.file.s0 d1)
              have hs2 := hs1.set 1 (.bool false) (hs1.file.s1 false)
              unfold RdCut
              rw [← H1.out, H4.out, Hfin.out.1, Hfin.out.2.1]
              have hd0 := Hfin.out.2.2
              subst hd0
              exact ⟨rfl, Ap, capp, by simpa using hs2⟩
          | true =>
            by_cases hm2 : m = 2
            · obtain ⟨x, y, rfl⟩ : ∃ x y, WS = [x, y] := by
                match WS, (show WS.length = 2 by rw [← Hm.out]; exact hm2) with
                | [x, y], _ => exact ⟨x, y, rfl⟩
              obtain ⟨b0, off0, rfl, _, hc0⟩ := rd_ss Hrw.out (k := 0) (l := x) rfl
              obtain ⟨b1, off1, he, _, hc1⟩ := rd_ss Hrw.out (k := 1) (l := y) rfl
              injection he with he; injection he with e1 e2
              subst e1 e2
              rw [Nat.add_zero] at hc0
              have Hsc2 := Lib.hid (show sc = ⟨(Tx.two x y N).1, (Tx.two x y N).2.1, decide ((Tx.two x y N).2.2 = 0), (Tx.two x y N).2.2, N, true⟩ by rw [Hsc.out, Tx.scan_two])
              have Htw := Lib.hid (fun w' => twoR_calls x y N w' (Hwl.out x (by simp)) (Hwl.out y (by simp)))
              generalize Tx.two x y N = tw at *
              obtain ⟨u, v, e⟩ := tw
              dsimp only at Htw Hsc2
              have t2 : ((m : Int) != 2) = false := by simp; omega
              have l0 : (0 : Int) < (m : Int) := by omega
              have l1 : (1 : Int) < (m : Int) := by omega
              clear hm2
              go_wp2_with fail
              go_big_quiet (first | (go_at_call 61; exact Calls.quiet_of_same ((Htw.out _).mono fun _ _ h => ⟨h.1, h.2.symm⟩)))
              have HS5 := Lib.hid (show RdS w (.slice (some ⟨bb, off, none⟩) k capl) LS (w4.drewN nq) P N true Ap capp from HS4.out.on (below_drewN (Below.refl _ _) nq))
              have f2' : (w4.drewN nq).cell? ⟨w.heap.size + 1, 2, none⟩ = some (.slice Ap P.length capp) := HS5.out.file.c2
              clear f0 f1 f2 z0 z1 z2 hc0 hc1
              generalize w4.drewN nq = w5 at *
              by_cases he : e = 0
              · subst he
                have hb6 : Below w5.heap.size w5 (w5.alloc (.cells #[.int .i64 u, .int .i64 v] 76)) := (Below.refl _ _).alloc (Nat.le_refl _) _
                have HS6 := Lib.hid (HS5.out.on hb6)
                have Hrd6 := Lib.hid (rd_new w5 (pcs [(u, v)]) #[.int .i64 u, .int .i64 v] 76 rfl)
                have hsb : w.heap.size + 2 ≤ (w5.alloc (.cells #[.int .i64 u, .int .i64 v] 76)).heap.size := HS6.out.size
                have hPb : P.length ≤ 274877906944 := by omega
                clear hb6
                go_wp2_with (at_builtin; refine wpList_append_rds rfl _ _ 51 rfl (w.heap.size + 2) 76 i0 _ 2 16 descPas Hi.out hz0 hz1 hz2 rfl (by decide) _ P.length (pcs P) rfl HS6.out.pairs _ (some ⟨w5.heap.size, 0, none⟩) 1 1 (pcs [(u, v)]) rfl rfl (by intro h; cases h) Hrd6.out (pcs_one _) (by unfold maxLen; omega) (by omega) hsb ?_; intro v9 w9 hown9 hg9; obtain ⟨A9, cap9, rfl⟩ := own_size hown9; have Hown9 := Lib.hid hown9; have Hg9 := Lib.hid (show World.grownBy _ w9 (Value.slice Ap P.length capp).ownBlock from hg9); have hgr := HS6.out.grow (P2 := P ++ [(u, v)]) (A2 := A9) (cap2 := cap9) Hg9.out (by rw [List.length_append, pcs_append]; exact hown9); have Hgr := Lib.hid hgr; have y2 := hgr.1.f 2; have y3 := hgr.1.c2; clear hown9 hg9 hgr)
                go_meet
                unfold RdCut
                rw [Hsc2.out]
                refine ⟨rfl, A9, cap9, ?_⟩
                have := Hgr.out.2
                rw [List.length_append] at this
                simpa using this
              · have t3 : (e == 0) = false := by simpa using he
                have Hs3 := Lib.hid (show sc = ⟨u, v, false, e, N, true⟩ by rw [Hsc2.out, decide_eq_false he])
                clear he
                go_wp2_with fail
                go_meet
                unfold RdCut
                rw [Hs3.out]
                exact ⟨rfl, Ap, capp, by simpa using HS5.out⟩
            · have t2 : ((m : Int) != 2) = true := by simp; omega
              have Hsc2 := Lib.hid (show sc = ⟨0, 0, false, 40, N, true⟩ by rw [Hsc.out, Tx.scan_other N WS Hnil2.out (by rw [← Hm.out]; exact hm2)])
              clear hm2
              go_wp2_with fail
              go_meet
              unfold RdCut
              rw [Hsc2.out]
              exact ⟨rfl, Ap, capp, by simpa using HS4.out⟩
        case rest =>
          obtain ⟨rfl, Ap', capp', hS⟩ := hcut
          have HS' := Lib.hid hS
          clear hS
          have f0 := HS'.out.file.c0; have f1 := HS'.out.file.c1; have f2 := HS'.out.file.c2; have f3 := HS'.out.file.c3; have f4 := HS'.out.file.c4
          have z3 := HS'.out.file.f 3; have z4 := HS'.out.file.f 4
          obtain ⟨u, v, says, e, n', b'⟩ := sc
          dsimp only at HS' Hrun f0 f1 f2
          obtain ⟨P2, hP2⟩ : ∃ x, x = P ++ if says = true then [(u, v)] else [] := ⟨_, rfl⟩
          rw [← hP2] at HS' f2
          have hP2l : P2.length ≤ i + 1 := by
            rw [hP2, List.length_append]
            have : (if says = true then [(u, v)] else []).length ≤ 1 := by split <;> simp
            omega
          have HP2 := Lib.hid hP2
          clear hP2
          by_cases he : e = 0
          · subst he
            have Hb1 := Lib.hid (show b' = false → n' = 0 by
              intro hb
              subst hb
              cases b with
              | false =>
                have hN := Hb0.out rfl
                subst hN
                obtain ⟨h1, h2, h3, h4⟩ := Tx.scan_head 0 WS Hnil2.out
                rw [← Hsc.out] at h2
                have := (h2 rfl).2
                exact absurd this (by simp)
              | true =>
                have := Hsc.out
                have hbg : (Tx.scan N true WS).begun = true := Tx.scan_begun N WS
                rw [← this] at hbg
                exact absurd hbg (by simp))
            have Hrun2 := Lib.hid (show Tx.all bs = ⟨P2 ++ (Tx.run n' b' (LS.drop (i + 1))).pairs, (Tx.run n' b' (LS.drop (i + 1))).e, (i + 1) + (Tx.run n' b' (LS.drop (i + 1))).k, (Tx.run n' b' (LS.drop (i + 1))).n, (Tx.run n' b' (LS.drop (i + 1))).begun⟩ by
              have := Hrun.out
              simp only [ne_eq, not_true, if_false] at this
              rw [this, HP2.out, List.append_assoc]
              congr 1
              omega)
            clear Hrun
            go_wp2_with fail
            go_roundw
            case rel => exact ⟨i + 1, P2, n', b', Ap', capp', by congr 1, HS'.out, by omega, by omega, Hb1.out, Hrun2.out⟩
            case measure => simp [intOf]; omega
          · have hne : (e != 0) = true := by simpa using he
            have Hrun2 := Lib.hid (show Tx.all bs = ⟨P2, e, i + 1, n', b'⟩ by
              have := Hrun.out
              rw [if_pos he] at this
              rw [this, HP2.out]
              have hsy : (Tx.scan N b WS).says = false := Tx.scan_says N b WS (by rw [← Hsc.out]; exact he)
              rw [← Hsc.out] at hsy
              dsimp only at hsy
              rw [hsy]
              simp)
            have r0 := HS'.out.res.c0; have r1 := HS'.out.res.c1; have r2 := HS'.out.res.c2; have r3 := HS'.out.res.c3; have r4 := HS'.out.res.c4
            have s0 := HS'.out.res.f 0; have s1 := HS'.out.res.f 1; have s2 := HS'.out.res.f 2; have s3 := HS'.out.res.f 3; have s4 := HS'.out.res.f 4
            have n1 : w.heap.size ≠ w.heap.size + 1 := by omega
            have He := Lib.hid he
            clear he Hrun
            go_wp2_with fail
            have hS1 := HS'.out
            have hk1 : Keep [w.heap.size + 1] wc ((wc.setCell ⟨w.heap.size + 1, 3, none⟩ (.int .i64 ((i : Int) + 1))).setCell ⟨w.heap.size + 1, 4, none⟩ (.int .i64 e)) := (Keep.set wc 3 _).trans (Keep.set _ 4 _)
            have hfin := fin_file (hS1.res.keep hk1 (by simp)) n' b' (.slice Ap' P2.length capp') ((i : Int) + 1) e
            refine bodyPost_ret (results_cell1 rfl _ _ w.heap.size 88 _ (0, 0) rfl hfin.1 file_desc file_size) rfl ?_
            unfold ReadSaid
            rw [Hrun2.out]
            unfold Tx.Run.fEnd Tx.Run.eEnd
            dsimp only
            rw [if_pos He.out, if_pos He.out]
            have hsz := hS1.size
            have hg : ∀ g, (Value.slice Ap' P2.length capp').ownBlock = some g → w.heap.size + 2 ≤ g := fun g hg => (own_blk hS1.pairs hg).1
            refine ⟨Ap', capp', by simp, own_base_s (own_keep_s (own_keep_s hS1.pairs hk1 (fun g hg2 hm => by have := hg g hg2; simp at hm; omega)) hfin.2 (fun g hg2 hm => by have := hg g hg2; simp at hm; omega)) (by omega), hS1.below.trans ((hk1.below (by omega) (by simp)).trans (hfin.2.below (by have := hk1.size; omega) (by simp)))⟩
    · obtain rfl : i = k := by omega
      have Hrun2 := Lib.hid (show Tx.all bs = ⟨P ++ [], 0, i + 0, N, b⟩ by rw [Hrun.out, List.drop_eq_nil_of_le (by rw [← Hk.out]; exact Nat.le_refl _)]; rfl)
      have f0 := HS.out.file.c0; have f1 := HS.out.file.c1; have f2 := HS.out.file.c2; have f3 := HS.out.file.c3; have f4 := HS.out.file.c4
      have z4 := HS.out.file.f 4
      have r0 := HS.out.res.c0; have r1 := HS.out.res.c1; have r2 := HS.out.res.c2; have r3 := HS.out.res.c3; have r4 := HS.out.res.c4
      have s0 := HS.out.res.f 0; have s1 := HS.out.res.f 1; have s2 := HS.out.res.f 2; have s3 := HS.out.res.f 3; have s4 := HS.out.res.f 4
      have n1 : w.heap.size ≠ w.heap.size + 1 := by omega
      clear Hrun
      have hS1 := HS.out
      have hsz := hS1.size
      have hg : ∀ g, (Value.slice Ap P.length capp).ownBlock = some g → w.heap.size + 2 ≤ g := fun g hg => (own_blk hS1.pairs hg).1
      have Hg := Lib.hid hg
      have HS1 := Lib.hid hS1
      clear hS1 hg
      cases b with
      | true =>
        go_wp2_with fail
        have hS1 := HS1.out
        have hg := Hg.out
        have hfin := fin_file hS1.res N true (.slice Ap P.length capp) 0 0
        refine bodyPost_ret (results_cell1 rfl _ _ w.heap.size 88 _ (0, 0) rfl hfin.1 file_desc file_size) rfl ?_
        unfold ReadSaid
        rw [Hrun2.out]
        unfold Tx.Run.fEnd Tx.Run.eEnd
        dsimp only
        rw [List.append_nil]
        refine ⟨Ap, capp, by simp, own_base_s (own_keep_s hS1.pairs hfin.2 (fun g hg2 hm => by have := hg g hg2; simp at hm; omega)) (by omega), hS1.below.trans (hfin.2.below (by omega) (by simp))⟩
      | false =>
        go_wp2_with fail
        have hS1 := HS1.out
        have hg := Hg.out
        have hk1 : Keep [w.heap.size + 1] wr (wr.setCell ⟨w.heap.size + 1, 4, none⟩ (.int .i64 40)) := Keep.set wr 4 _
        have hfin := fin_file (hS1.res.keep hk1 (by simp)) N false (.slice Ap P.length capp) 0 40
        refine bodyPost_ret (results_cell1 rfl _ _ w.heap.size 88 _ (0, 0) rfl hfin.1 file_desc file_size) rfl ?_
        unfold ReadSaid
        rw [Hrun2.out]
        unfold Tx.Run.fEnd Tx.Run.eEnd
        dsimp only
        rw [List.append_nil]
        refine ⟨Ap, capp, by simp, own_base_s (own_keep_s (own_keep_s hS1.pairs hk1 (fun g hg2 hm => by have := hg g hg2; simp at hm; omega)) hfin.2 (fun g hg2 hm => by have := hg g hg2; simp at hm; omega)) (by omega), hS1.below.trans ((hk1.below (by omega) (by simp)).trans (hfin.2.below (by have := hk1.size; omega) (by simp)))⟩
end Go.Proofs.YtgoobadkbndfgaaDoor
