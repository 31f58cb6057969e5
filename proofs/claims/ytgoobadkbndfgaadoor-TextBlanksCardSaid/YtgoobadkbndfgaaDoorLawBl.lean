/- TextBlanks -/
import Derived.Test.YtgoobadkbndfgaaDoorBlB
import Derived.Test.YtgoobadkbndfgaaDoorFaA
import Derived.Test.YtgoobadkbndfgaaDoorFdM
import Derived.Test.YtgoobadkbndfgaaDoorLawPrC
import Derived.Test.YtgoobadkbndfgaaDoorLift
import Derived.Test.YtgoobadkbndfgaaDoorStepA
import Derived.Deep.DeepCutAuto
import Derived.Deep.RegionHeld3
namespace Go.Proofs.YtgoobadkbndfgaaDoor
open Go.RowKit Go.ChangeShapes Go.WideShapes Go.ChangeAt
set_option linter.unusedSimpArgs false
set_option linter.unusedVariables false
section
variable {w : World} {g : Nat} {e a b c : Int} {h : Bool} {s : List (BitVec 8)}
theorem DrIs.lt (H : DrIs w g e a b c h s) : g < w.heap.size := lt_heap H
theorem DrIs.f (H : DrIs w g e a b c h s) (o : Nat) : w.frozen? ⟨g, o, none⟩ = false := by unfold DrIs at H; simp [World.frozen?, H]
theorem DrIs.s0 (H : DrIs w g e a b c h s) (x : Int) : DrIs (w.setCell ⟨g, 0, none⟩ (.int .i64 x)) g x a b c h s := by unfold DrIs; rw [heap_set H]; rfl
theorem DrIs.s1 (H : DrIs w g e a b c h s) (x : Int) : DrIs (w.setCell ⟨g, 1, none⟩ (.int .i64 x)) g e x b c h s := by unfold DrIs; rw [heap_set H]; rfl
theorem DrIs.s2 (H : DrIs w g e a b c h s) (x : Int) : DrIs (w.setCell ⟨g, 2, none⟩ (.int .i64 x)) g e a x c h s := by unfold DrIs; rw [heap_set H]; rfl
theorem DrIs.s3 (H : DrIs w g e a b c h s) (x : Int) : DrIs (w.setCell ⟨g, 3, none⟩ (.int .i64 x)) g e a b x h s := by unfold DrIs; rw [heap_set H]; rfl
theorem DrIs.s4 (H : DrIs w g e a b c h s) (x : Bool) : DrIs (w.setCell ⟨g, 4, none⟩ (.bool x)) g e a b c x s := by unfold DrIs; rw [heap_set H]; rfl
theorem DrIs.s5 (H : DrIs w g e a b c h s) (x : List (BitVec 8)) : DrIs (w.setCell ⟨g, 5, none⟩ (SS x)) g e a b c h x := by unfold DrIs; rw [heap_set H]; rfl
theorem fin_dress (H : DrIs w g e a b c h s) (e' a' b' c' : Int) (h' : Bool) (s' : List (BitVec 8)) {B : Nat} (hB : B ≤ g) :
    DrIs ((((((w.setCell ⟨g, 0, none⟩ (.int .i64 e')).setCell ⟨g, 1, none⟩ (.int .i64 a')).setCell ⟨g, 2, none⟩ (.int .i64 b')).setCell ⟨g, 3, none⟩ (.int .i64 c')).setCell ⟨g, 4, none⟩ (.bool h')).setCell ⟨g, 5, none⟩ (SS s')) g e' a' b' c' h' s' ∧
    Below B w ((((((w.setCell ⟨g, 0, none⟩ (.int .i64 e')).setCell ⟨g, 1, none⟩ (.int .i64 a')).setCell ⟨g, 2, none⟩ (.int .i64 b')).setCell ⟨g, 3, none⟩ (.int .i64 c')).setCell ⟨g, 4, none⟩ (.bool h')).setCell ⟨g, 5, none⟩ (SS s')) ∧
    ((((((w.setCell ⟨g, 0, none⟩ (.int .i64 e')).setCell ⟨g, 1, none⟩ (.int .i64 a')).setCell ⟨g, 2, none⟩ (.int .i64 b')).setCell ⟨g, 3, none⟩ (.int .i64 c')).setCell ⟨g, 4, none⟩ (.bool h')).setCell ⟨g, 5, none⟩ (SS s')).heap.size = w.heap.size :=
  ⟨(((((H.s0 e').s1 a').s2 b').s3 c').s4 h').s5 s', ((((((Below.refl _ _).setCell hB _).setCell hB _).setCell hB _).setCell hB _).setCell hB _).setCell hB _, by simp⟩
end
structure Dz where
  e : Int
  a : Int
  b : Int
  c : Int
  h : Bool
  s : List (BitVec 8)
/-- Dresses that came in. -/
def DrsIn (w : World) (B : Nat) (A : Option Addr) (ds : List Dz) : Prop := ∀ i d, ds[i]? = some d → ∃ b off, A = some ⟨b, off, none⟩ ∧ b < B ∧ w.cell? ⟨b, off + i * 6, none⟩ = some (.int .i64 d.e) ∧ w.cell? ⟨b, off + i * 6 + 1, none⟩ = some (.int .i64 d.a) ∧ w.cell? ⟨b, off + i * 6 + 2, none⟩ = some (.int .i64 d.b) ∧ w.cell? ⟨b, off + i * 6 + 3, none⟩ = some (.int .i64 d.c) ∧ w.cell? ⟨b, off + i * 6 + 4, none⟩ = some (.bool d.h) ∧ w.cell? ⟨b, off + i * 6 + 5, none⟩ = some (SS d.s)
theorem DrsIn.below {w w' : World} {B b0 : Nat} {A : Option Addr} {ds : List Dz} (h : DrsIn w B A ds) (hb : Below b0 w w') (hB : B ≤ b0) : DrsIn w' B A ds := by
  intro i d hd
  obtain ⟨b, off, h1, h2, h3, h4, h5, h6, h7, h8⟩ := h i d hd
  have hx : ∀ o, w'.cell? ⟨b, o, none⟩ = w.cell? ⟨b, o, none⟩ := fun o => hb.cell (p := ⟨b, o, none⟩) (Nat.lt_of_lt_of_le h2 hB)
  exact ⟨b, off, h1, h2, by rw [hx]; exact h3, by rw [hx]; exact h4, by rw [hx]; exact h5, by rw [hx]; exact h6, by rw [hx]; exact h7, by rw [hx]; exact h8⟩
/-- One that may be laid about a line. -/
def Fit (e a b c : Int) (s : List (BitVec 8)) : Prop := (0 ≤ e ∧ e ≤ 9223372036854775807) ∧ (0 ≤ a ∧ a ≤ 9223372036854775807) ∧ (0 ≤ b ∧ b ≤ 9223372036854775807) ∧ (0 ≤ c ∧ c ≤ 9223372036854775807) ∧ s.length ≤ 1000
def ints (d : Dz) : Prop := (-9223372036854775808 ≤ d.e ∧ d.e ≤ 9223372036854775807) ∧ (-9223372036854775808 ≤ d.a ∧ d.a ≤ 9223372036854775807) ∧ (-9223372036854775808 ≤ d.b ∧ d.b ≤ 9223372036854775807) ∧ (-9223372036854775808 ≤ d.c ∧ d.c ≤ 9223372036854775807)
/-- What stands in the variable. -/
def DV (wr : World) (g : Nat) (w' : World) : Prop := ∃ e a b c h s, DrIs w' g e a b c h s ∧ ((-9223372036854775808 ≤ e ∧ e ≤ 9223372036854775807) ∧ (-9223372036854775808 ≤ a ∧ a ≤ 9223372036854775807) ∧ (-9223372036854775808 ≤ b ∧ b ≤ 9223372036854775807) ∧ (-9223372036854775808 ≤ c ∧ c ≤ 9223372036854775807)) ∧ Below wr.heap.size wr w' ∧ w'.heap.size = wr.heap.size + 1
def DF (wr : World) (g : Nat) (w' : World) : Prop := ∃ e a b c h s, DrIs w' g e a b c h s ∧ Fit e a b c s ∧ Below wr.heap.size wr w' ∧ w'.heap.size = wr.heap.size + 1
theorem wl_wd : ∀ (r cur : List (BitVec 8)), wl (Tx.wd cur r) ≤ 10 * (cur.length + r.length)
  | [], cur => by
    unfold Tx.wd Tx.flush
    by_cases h : cur = []
    · simp [h, wl]
    · have := List.length_pos_iff.2 h
      simp [h, wl]; omega
  | c :: r, cur => by
    unfold Tx.wd
    have hf : wl (Tx.flush cur) ≤ 10 * cur.length := by
      unfold Tx.flush
      by_cases h : cur = []
      · simp [h, wl]
      · have := List.length_pos_iff.2 h
        simp [h, wl]; omega
    split
    · simp; omega
    · split
      · have := wl_wd r []
        have ha : wl (Tx.flush cur ++ Tx.wd [] r) = wl (Tx.flush cur) + wl (Tx.wd [] r) := by unfold wl; simp
        simp at this ⊢; omega
      · have := wl_wd r (cur ++ [c])
        simp at this ⊢; omega
theorem wl_words (l : List (BitVec 8)) : wl (Tx.words l) ≤ 10 * l.length := by
  rw [Tx.words_wd]; have := wl_wd l []; simpa using this
theorem wl_len : ∀ (ws : List (List (BitVec 8))), ws.length ≤ wl ws
  | [] => by simp [wl]
  | v :: ws => by
    have := wl_len ws
    unfold wl at this ⊢
    simp; omega
def lsum (ls : List (List (BitVec 8))) : Nat := (ls.map fun l => l.length + 1).sum
theorem lines_sum : ∀ (k : Nat) (b : List (BitVec 8)), b.length ≤ k → lsum (Tx.lines b) ≤ b.length + 1
  | 0, b, h => by
    have : b = [] := List.eq_nil_of_length_eq_zero (by omega)
    subst this; simp [Tx.lines_nil, lsum]
  | k + 1, b, h => by
    cases hi : Tx.nlIdx b with
    | none =>
      rw [Tx.lines_none hi]
      unfold Tx.lasts
      by_cases hb : b = []
      · subst hb; simp [lsum]
      · rw [if_neg hb]; simp [lsum]
    | some i =>
      have hlt := Tx.nlIdx_lt hi
      rw [Tx.lines_some hi]
      have := lines_sum k (b.drop (i + 1)) (by simp; omega)
      unfold lsum at this ⊢
      simp at this ⊢; omega
theorem sum_take (L : List (List (BitVec 8))) (i : Nat) : lsum (L.take i) ≤ lsum L := by
  have : lsum L = lsum (L.take i) + lsum (L.drop i) := by
    unfold lsum
    rw [← List.sum_append, ← List.map_append, List.take_append_drop]
  omega
theorem lsum_more {L : List (List (BitVec 8))} {i : Nat} {l : List (BitVec 8)} (h : L[i]? = some l) : lsum (L.take (i + 1)) = lsum (L.take i) + l.length + 1 := by
  rw [take_more h]; unfold lsum; simp; omega
theorem nl_take : ∀ (b : List (BitVec 8)) (i : Nat), Tx.nlIdx b = some i → Tx.noNl (b.take i)
  | [], i, h => by simp [Tx.nlIdx] at h
  | c :: r, i, h => by
    unfold Tx.nlIdx at h
    by_cases hc : n8 c = 10
    · rw [if_pos hc] at h; injection h with h; subst h; intro d hd; cases hd
    · rw [if_neg hc] at h
      cases hr : Tx.nlIdx r with
      | none => rw [hr] at h; cases h
      | some j =>
        rw [hr] at h; injection h with h; subst h
        intro d hd
        rcases List.mem_cons.1 (by simpa using hd) with h1 | h1
        · subst h1; exact hc
        · exact nl_take r j hr d h1
theorem line_noNl : ∀ (k : Nat) (b : List (BitVec 8)), b.length ≤ k → ∀ l ∈ Tx.lines b, Tx.noNl l
  | 0, b, h, l, hl => by
    have : b = [] := List.eq_nil_of_length_eq_zero (by omega)
    subst this; simp [Tx.lines_nil] at hl
  | k + 1, b, h, l, hl => by
    cases hi : Tx.nlIdx b with
    | none =>
      rw [Tx.lines_none hi] at hl
      unfold Tx.lasts at hl
      split at hl
      · cases hl
      · simp at hl; subst hl; exact Tx.nlIdx_none_no hi
    | some i =>
      have hlt := Tx.nlIdx_lt hi
      rw [Tx.lines_some hi] at hl
      rcases List.mem_cons.1 hl with h1 | h1
      · subst h1
        exact nl_take b i hi
      · exact line_noNl k (b.drop (i + 1)) (by simp; omega) l h1
theorem s6 {w w' : World} {g gl ol : Nat} {v0 v1 v2 v3 v4 v5 v6 : Value} (h : (((w.cell? ⟨g, 0, none⟩ = some v0 ∧ w.cell? ⟨g, 1, none⟩ = some v1) ∧ w.cell? ⟨g, 2, none⟩ = some v2 ∧ w.cell? ⟨g, 3, none⟩ = some v3) ∧ w.cell? ⟨g, 4, none⟩ = some v4 ∧ w.cell? ⟨g, 5, none⟩ = some v5) ∧ w.cell? ⟨gl, ol, none⟩ = some v6) (hb : w'.heap[g]? = w.heap[g]?) (hb2 : w'.heap[gl]? = w.heap[gl]?) :
    (((w'.cell? ⟨g, 0, none⟩ = some v0 ∧ w'.cell? ⟨g, 1, none⟩ = some v1) ∧ w'.cell? ⟨g, 2, none⟩ = some v2 ∧ w'.cell? ⟨g, 3, none⟩ = some v3) ∧ w'.cell? ⟨g, 4, none⟩ = some v4 ∧ w'.cell? ⟨g, 5, none⟩ = some v5) ∧ w'.cell? ⟨gl, ol, none⟩ = some v6 := by
  have hx : ∀ o, w'.cell? ⟨g, o, none⟩ = w.cell? ⟨g, o, none⟩ := fun o => by simp only [World.cell?]; rw [hb]
  have hy : ∀ o, w'.cell? ⟨gl, o, none⟩ = w.cell? ⟨gl, o, none⟩ := fun o => by simp only [World.cell?]; rw [hb2]
  simpa only [hx, hy] using h
theorem step_buf_rd {w0 w : World} {ops : Array Oper} {o : Oper} {a : Act} {K : Act → World → Prop} {Q : Exit → Act → World → Prop} {E : Prop} (hgd : o.guard = none) (s x : Operand)
    (ho : o.op = .call { callee := .builtin .append, args := #[s, x], argTypes := #[27, 27] })
    (v : Value) (X : List (BitVec 8)) (hs : a.eval s = v) (hb : Buf w0 w v X) (A : Option Addr) (m c B : Nat) (l : List (BitVec 8)) (hx : a.eval x = .slice A m c) (hm : m = l.length) (hnil : A = none → m = 0 ∧ c = 0) (hr : Rd w B A (l.map V8)) (hlen : X.length + l.length ≤ 1099511627776)
    (h : ∀ v' w', Hid (Buf w0 w' v' (X ++ l)) → Hid (w.grownBy w' v.ownBlock) → K (a.put o.dst v') w') :
    if Region.wanted o (yielded ops a.tmps) = true then Oper.wp Tryd.prog o a w K Q else E := by
  obtain ⟨i8, h8, h80, h81, h82⟩ := info_parts infoU8
  refine step_append_rd hgd s x 27 ho w0.heap.size 5 i8 _ 1 descU8s h8 h80 h81 h82 rfl v X.length (X.map V8) hs hb.1 B A m c (l.map V8) hx (by rw [List.length_map]; exact hm) hnil hr (v8_one l) (by unfold maxLen; omega) (by omega) hb.size ?_
  intro v' w' h1 h2
  exact h v' w' (Lib.hid ⟨by rw [List.length_append, List.map_append, ← hm]; exact h1.out, hb.2.grown h2.out hb.size fun k hk => (hb.1.lt k hk).1⟩) h2
theorem blank_all {bs : List (BitVec 8)} {D : List (List (BitVec 8))} (h : Tx.Drs (Tx.lines bs) D) (hn : ∀ x ∈ D, Tx.noNl x) : (Tx.all (Tx.text D)).eEnd = (Tx.all bs).eEnd ∧ (Tx.all (Tx.text D)).pEnd = (Tx.all bs).pEnd ∧ (Tx.all (Tx.text D)).n = (Tx.all bs).n ∧
    ∃ (F F' : Int) (S : Nat) (z : Bool), (Tx.all bs).fEnd 0 0 = F ∧ (Tx.all (Tx.text D)).fEnd 0 0 = F' ∧ Tx.spokenN (Tx.lines bs) F.toNat = S ∧ Tx.spokenN (Tx.lines (Tx.text D)) F'.toNat = S ∧ (F == 0) = z ∧ (F' == 0) = z ∧ F ≤ (Tx.lines bs).length ∧ F' ≤ D.length ∧ 0 ≤ F ∧ 0 ≤ F' := by
  obtain ⟨r1, r2, r3, r4, r5⟩ := Tx.drs_run h 0 false
  have hl := Tx.lines_text D hn
  have ha : Tx.all (Tx.text D) = Tx.run 0 false D := by unfold Tx.all; rw [hl]
  have hb : Tx.all bs = Tx.run 0 false (Tx.lines bs) := rfl
  rw [hl, ha, hb]
  have e1 : (Tx.run 0 false D).eEnd = (Tx.run 0 false (Tx.lines bs)).eEnd := by unfold Tx.Run.eEnd; rw [r2, r4]
  refine ⟨e1, by unfold Tx.Run.pEnd; rw [e1, r1], r3, ?_⟩
  by_cases he : (Tx.run 0 false (Tx.lines bs)).e = 0
  · refine ⟨0, 0, 0, true, ?_, ?_, rfl, rfl, rfl, rfl, by omega, by omega, by omega, by omega⟩
    · unfold Tx.Run.fEnd; rw [he, if_neg (by simp)]
    · unfold Tx.Run.fEnd; rw [r2, he, if_neg (by simp)]
  · have k1 := Tx.run_fault_at 0 false _ he
    have k2 := Tx.run_fault_at 0 false D (by rw [r2]; exact he)
    refine ⟨((Tx.run 0 false (Tx.lines bs)).k : Nat), ((Tx.run 0 false D).k : Nat), _, false, ?_, ?_, rfl, ?_, ?_, ?_, ?_, ?_, by omega, by omega⟩
    · unfold Tx.Run.fEnd; rw [if_pos he]; simp
    · unfold Tx.Run.fEnd; rw [if_pos (by rw [r2]; exact he)]; simp
    · simpa using r5 he
    · have := k1.1; simp; omega
    · have := k2.1; simp; omega
    · exact_mod_cast k1.2.1
    · exact_mod_cast k2.2.1
theorem blank_ch {bs : List (BitVec 8)} {D : List (List (BitVec 8))} (h : Tx.Drs (Tx.lines bs) D) (hn : ∀ x ∈ D, Tx.noNl x) (n : Int) : (Tx.chRun n (Tx.pieces (Tx.text D))).out = (Tx.chRun n (Tx.pieces bs)).out ∧ (Tx.chRun n (Tx.pieces (Tx.text D))).e = (Tx.chRun n (Tx.pieces bs)).e ∧
    ∃ (F F' : Int) (S : Nat) (z : Bool), (Tx.chRun n (Tx.pieces bs)).line = F ∧ (Tx.chRun n (Tx.pieces (Tx.text D))).line = F' ∧ Tx.spokenN (Tx.lines bs) F.toNat = S ∧ Tx.spokenN (Tx.lines (Tx.text D)) F'.toNat = S ∧ (F == 0) = z ∧ (F' == 0) = z ∧ F ≤ (Tx.lines bs).length ∧ F' ≤ D.length ∧ 0 ≤ F ∧ 0 ≤ F' := by
  obtain ⟨r1, r2, r3⟩ := Tx.drs_ch h n
  have hl := Tx.lines_text D hn
  obtain ⟨p1, p2, p3⟩ := Tx.chRun_pieces n bs
  obtain ⟨q1, q2, q3⟩ := Tx.chRun_pieces n (Tx.text D)
  rw [hl] at q1 q2 q3 ⊢
  refine ⟨by unfold Tx.CRun.out; rw [p1, p2, q1, q2, r1, r2], by rw [p2, q2, r2], ?_⟩
  by_cases he : (Tx.chRun n (Tx.lines bs)).e = 0
  · refine ⟨0, 0, 0, true, ?_, ?_, rfl, rfl, rfl, rfl, by omega, by omega, by omega, by omega⟩
    · unfold Tx.CRun.line; rw [p2, he, if_pos rfl]
    · unfold Tx.CRun.line; rw [q2, r2, he, if_pos rfl]
  · have he' : (Tx.chRun n D).e ≠ 0 := by rw [r2]; exact he
    have k1 := Tx.chRun_k1 n _ he
    have k2 := Tx.chRun_k1 n _ he'
    refine ⟨((Tx.chRun n (Tx.lines bs)).k : Nat), ((Tx.chRun n D).k : Nat), _, false, ?_, ?_, rfl, ?_, ?_, ?_, ?_, ?_, by omega, by omega⟩
    · unfold Tx.CRun.line; rw [p2, if_neg he, p3 he]
    · unfold Tx.CRun.line; rw [q2, if_neg he', q3 he']
    · simpa using r3 he
    · have := k1.1; simp; omega
    · have := k2.1; simp; omega
    · exact_mod_cast k1.2
    · exact_mod_cast k2.2
set_option maxHeartbeats 8000000 in
set_option maxRecDepth 40000 in
theorem law_blanks (A : Option Addr) (n cap : Nat) (bs : List (BitVec 8)) (z : Int) (A2 : Option Addr) (n2 cap2 : Nat) (ds : List Dz) (w : World) (hn : n = bs.length) (hcap : n ≤ cap) (hcm : cap ≤ maxLen) (hnil : A = none → n = 0 ∧ cap = 0) (hr : Rd w w.heap.size A (bs.map V8))
    (hn2 : n2 = ds.length) (hcap2 : n2 ≤ cap2) (hcm2 : cap2 ≤ maxLen) (hr2 : DrsIn w w.heap.size A2 ds) (hds : ∀ d ∈ ds, ints d) :
    Calls Tryd.prog 8 #[.slice A n cap, .int .i64 z, .slice A2 n2 cap2] w fun e w' => e = .returned (.bool true) ∧ Below w.heap.size w w' := by
  have Hn := Lib.hid hn; have Hnil := Lib.hid hnil; have Hr := Lib.hid hr; have Hc := Lib.hid hcm
  have Hn2 := Lib.hid hn2; have Hr2 := Lib.hid hr2; have Hds := Lib.hid hds
  unfold maxLen at hcm hcm2
  clear hn hnil hr hn2 hr2 hds
  go_enter Tryd.func8, Tryd.ntmps8
  go_wp2_with fail
  refine (first_calls w).mono ?_
  rintro en w1 ⟨rfl, hb1⟩
  have hz1 := hb1.size
  have Hb1 := Lib.hid hb1
  clear hb1
  by_cases hbig : 65536 < n
  · have t2 : (65536 : Int) < (n : Int) := by omega
    go_wp2_with fail
    go_ret
    exact ⟨rfl, Hb1.out⟩
  have t2 : ¬ (65536 : Int) < (n : Int) := by omega
  have Hli := Lib.hid (Lines_calls A n cap w.heap.size bs w1 Hn.out (by omega) hcap (by omega) Hnil.out hz1 (Hr.out.below Hb1.out (Nat.le_refl _)))
  go_wp2_with fail
  refine (Hli.out).mono ?_
  rintro en w2 ⟨AL, capL, rfl, hown2, hb2⟩
  have hz2 := hb2.size
  obtain ⟨L, hL⟩ : ∃ L, L = Tx.lines bs := ⟨_, rfl⟩
  obtain ⟨kl, hkl⟩ : ∃ k, k = L.length := ⟨_, rfl⟩
  rw [← hL, ← hkl] at hown2 ⊢
  have Hb2 := Lib.hid (Hb1.out.trans (hb2.mono hz1))
  have HrL := Lib.hid (own_rd hown2)
  obtain ⟨hccL, hcmL⟩ := own_cap hown2
  have HL := Lib.hid hL; have Hkl := Lib.hid hkl
  have hkln : kl ≤ n := by have := Tx.lines_length _ bs (Nat.le_refl _); rw [hkl, hL, Hn.out]; exact this
  clear hown2 hb2 hL hkl Hli
  go_wp2_with fail
  go_loopw [8, 10] (fun bv iv wr => ∃ (i : Nat) (D : List (List (BitVec 8))), iv = .int .i64 (i : Int) ∧ i ≤ kl ∧ Buf w2 wr bv (Tx.text D) ∧ Tx.Drs (L.take i) D ∧ (∀ x ∈ D, Tx.noNl x) ∧ (Tx.text D).length ≤ 1100 * i + 10 * lsum (L.take i)) (fun _ iv _ => kl - (intOf iv).toNat)
  case atStart => exact ⟨0, [], rfl, by omega, Buf.nil (Below.refl _ _), Tx.Drs.nil, (fun _ h => by cases h), by simp [Tx.text, lsum]⟩
  case round =>
    obtain ⟨i, D, rfl, hi, hbu, hdr, hno, hlen⟩ := hrel
    obtain ⟨A1, cap1, rfl, hcc1, hcm1⟩ := hbu.form
    obtain ⟨n1, hn1⟩ : ∃ n, n = (Tx.text D).length := ⟨_, rfl⟩
    rw [← hn1] at hbu hcc1 ⊢
    have Hbu := Lib.hid hbu; have Hdr := Lib.hid hdr; have Hno := Lib.hid hno; have Hlen := Lib.hid hlen; have Hn1 := Lib.hid hn1
    have hzr := hbu.size
    clear hbu hdr hno hlen hn1
    by_cases hlt : i < kl
    · have q1 : (i : Int) < (kl : Int) := by omega
      go_upto_if 44 with fail
      have hbn : Below wr.heap.size wr (wr.alloc (.cells #[.int .i64 0, .int .i64 0, .int .i64 0, .int .i64 0, .bool false, SS []] 64)) := (Below.refl _ _).alloc (Nat.le_refl _) _
      have hdn : DrIs (wr.alloc (.cells #[.int .i64 0, .int .i64 0, .int .i64 0, .int .i64 0, .bool false, SS []] 64)) wr.heap.size 0 0 0 0 false [] := heap_alloc_new _ _
      have hzn : (wr.alloc (.cells #[.int .i64 0, .int .i64 0, .int .i64 0, .int .i64 0, .bool false, SS []] 64)).heap.size = wr.heap.size + 1 := by simp
      change Code.wp _ _ _ _ (wr.alloc (.cells #[.int .i64 0, .int .i64 0, .int .i64 0, .int .i64 0, .bool false, SS []] 64))
      generalize wr.alloc (.cells #[.int .i64 0, .int .i64 0, .int .i64 0, .int .i64 0, .bool false, SS []] 64) = w3 at *
      have Hbn := Lib.hid hbn; have Hdn := Lib.hid hdn; have Hzn := Lib.hid hzn
      have Hz := Lib.hid (show (-9223372036854775808 : Int) ≤ 0 ∧ (0 : Int) ≤ 9223372036854775807 by omega)
      clear hbn hdn hzn
      go_cut [] (DV wr wr.heap.size)
      case first =>
        by_cases hn0 : n2 = 0
        · have q2 : ¬ (0 : Int) < (n2 : Int) := by omega
          clear hn0
          go_wp2_with fail
          go_meet
          exact ⟨0, 0, 0, 0, false, [], Hdn.out, ⟨Hz.out, Hz.out, Hz.out, Hz.out⟩, Hbn.out, Hzn.out⟩
        · have q2 : (0 : Int) < (n2 : Int) := by omega
          obtain ⟨r, hrr, hrn⟩ : ∃ r : Nat, Int.tmod (i : Int) (n2 : Int) = (r : Int) ∧ r < n2 := ⟨i % n2, by rw [Int.tmod_eq_emod_of_nonneg (by omega)]; simp, Nat.mod_lt _ (by omega)⟩
          have q3 : (r : Int) < (n2 : Int) := by omega
          have q4 : ((n2 : Int) == 0) = false := by simp; omega
          obtain ⟨d, hd⟩ : ∃ d, ds[r]? = some d := ⟨ds[r]'(by rw [← Hn2.out]; exact hrn), List.getElem?_eq_getElem _⟩
          have Hdi := Lib.hid (Hds.out d (List.mem_of_getElem? hd))
          obtain ⟨b, off, hA2, hb, m0, m1, m2, m3, m4, m5⟩ := (((Hr2.out.below Hb2.out (Nat.le_refl _)).below Hbu.out.2 (by omega)).below Hbn.out (by omega)) r d hd
          subst hA2
          have c0 := Hdn.out.c0; have c1 := Hdn.out.c1; have c2 := Hdn.out.c2; have c3 := Hdn.out.c3; have c4 := Hdn.out.c4; have c5 := Hdn.out.c5
          have f0 := Hdn.out.f 0; have f1 := Hdn.out.f 1; have f2 := Hdn.out.f 2; have f3 := Hdn.out.f 3; have f4 := Hdn.out.f 4; have f5 := Hdn.out.f 5
          clear hd hn0 hrn hb
          go_wp2_with fail
          go_meet
          have hfin := fin_dress (B := wr.heap.size) Hdn.out d.e d.a d.b d.c d.h d.s (Nat.le_refl _)
          exact ⟨_, _, _, _, _, _, hfin.1, Hdi.out, Hbn.out.trans hfin.2.1, by rw [hfin.2.2]; exact Hzn.out⟩
      case rest =>
        obtain ⟨e, a, b, c, h, s, hd4, hint, hb4, hz4⟩ := hcut
        obtain ⟨sb, hsb⟩ : ∃ sb, sb = strOf s := ⟨_, rfl⟩
        obtain ⟨ns, hns⟩ : ∃ ns, ns = s.length := ⟨_, rfl⟩
        have hsz : sb.size = ns := by rw [hsb, hns, strOf_size]
        have c0 := hd4.c0; have c1 := hd4.c1; have c2 := hd4.c2; have c3 := hd4.c3; have c4 := hd4.c4
        have c5 : wc.cell? ⟨wr.heap.size, 5, none⟩ = some (.string sb) := by rw [hsb]; exact hd4.c5
        have Hd4 := Lib.hid hd4; have Hint := Lib.hid hint; have Hb4 := Lib.hid hb4; have Hz4 := Lib.hid hz4; have Hns := Lib.hid hns; have Hsb := Lib.hid hsb
        clear hd4 hint hb4 hz4 hns hsb Hbn Hdn Hzn
        clear w3
        go_upto_region 12 with fail
        go_cut [75] (fun s w' => s = .bool (decide (1000 < ns ∨ e < 0 ∨ a < 0 ∨ b < 0 ∨ c < 0)) ∧ wc = w')
        case first =>
          by_cases g5 : 1000 < ns
          · have g5' : (1000 : Int) < (ns : Int) := by omega
            have G5 := Lib.hid g5
            clear g5
            go_wp2_with fail
            go_meet
            exact ⟨by rw [decide_eq_true (show 1000 < ns ∨ e < 0 ∨ a < 0 ∨ b < 0 ∨ c < 0 from Or.inl G5.out)], rfl⟩
          · have g5' : ¬ (1000 : Int) < (ns : Int) := by omega
            have G5 := Lib.hid g5
            clear g5
            by_cases g0 : e < 0
            · have G0 := Lib.hid g0
              go_wp2_with fail
              go_meet
              exact ⟨by rw [decide_eq_true (show 1000 < ns ∨ e < 0 ∨ a < 0 ∨ b < 0 ∨ c < 0 from Or.inr (Or.inl G0.out))], rfl⟩
            · have G0 := Lib.hid g0
              by_cases g1 : a < 0
              · have G1 := Lib.hid g1
                go_wp2_with fail
                go_meet
                exact ⟨by rw [decide_eq_true (show 1000 < ns ∨ e < 0 ∨ a < 0 ∨ b < 0 ∨ c < 0 from Or.inr (Or.inr (Or.inl G1.out)))], rfl⟩
              · have G1 := Lib.hid g1
                by_cases g2 : b < 0
                · have G2 := Lib.hid g2
                  go_wp2_with fail
                  go_meet
                  exact ⟨by rw [decide_eq_true (show 1000 < ns ∨ e < 0 ∨ a < 0 ∨ b < 0 ∨ c < 0 from Or.inr (Or.inr (Or.inr (Or.inl G2.out))))], rfl⟩
                · have G2 := Lib.hid g2
                  by_cases g3 : c < 0
                  · have G3 := Lib.hid g3
                    go_wp2_with fail
                    go_meet
                    exact ⟨by rw [decide_eq_true (show 1000 < ns ∨ e < 0 ∨ a < 0 ∨ b < 0 ∨ c < 0 from Or.inr (Or.inr (Or.inr (Or.inr G3.out))))], rfl⟩
                  · have G3 := Lib.hid g3
                    go_wp2_with fail
                    go_meet
                    exact ⟨by rw [decide_eq_false (show ¬ (1000 < ns ∨ e < 0 ∨ a < 0 ∨ b < 0 ∨ c < 0) by have := G5.out; have := G0.out; have := G1.out; have := G2.out; have := G3.out; omega)], rfl⟩
        case rest =>
          obtain ⟨rfl, rfl⟩ := hcut
          generalize hbad : decide (1000 < ns ∨ e < 0 ∨ a < 0 ∨ b < 0 ∨ c < 0) = bad
          have Hbad := Lib.hid hbad
          clear hbad
          go_upto_if 75 with fail
          go_cut [] (DF wr wr.heap.size)
          case first =>
            by_cases hbd : 1000 < ns ∨ e < 0 ∨ a < 0 ∨ b < 0 ∨ c < 0
            · have he := Hbad.out
              rw [decide_eq_true hbd] at he
              subst he
              have f0 := Hd4.out.f 0; have f1 := Hd4.out.f 1; have f2 := Hd4.out.f 2; have f3 := Hd4.out.f 3; have f4 := Hd4.out.f 4; have f5 := Hd4.out.f 5
              clear hbd
              go_wp2_with fail
              go_meet
              have hfin := fin_dress (B := wr.heap.size) Hd4.out 0 0 0 0 false [] (Nat.le_refl _)
              exact ⟨_, _, _, _, _, _, hfin.1, ⟨by omega, by omega, by omega, by omega, by simp⟩, Hb4.out.trans hfin.2.1, by exact hfin.2.2.trans Hz4.out⟩
            · have he := Hbad.out
              rw [decide_eq_false hbd] at he
              subst he
              have Hbd := Lib.hid hbd
              clear hbd
              go_wp2_with fail
              go_meet
              have hbd := Hbd.out
              obtain ⟨i1, i2, i3, i4⟩ := Hint.out
              exact ⟨_, _, _, _, _, _, Hd4.out, ⟨by omega, by omega, by omega, by omega, by have := Hns.out; omega⟩, Hb4.out, Hz4.out⟩
          case rest =>
            obtain ⟨e, a, b, c, h, s, hd5, hfit, hb5, hz5⟩ := hcut
            obtain ⟨l, hl⟩ : ∃ l, L[i]? = some l := ⟨L[i]'(by rw [← Hkl.out]; exact hlt), List.getElem?_eq_getElem _⟩
            obtain ⟨bl, ofl, hAL, hbl, hcell⟩ := ((HrL.out.below Hbu.out.2 (Nat.le_refl _)).below hb5 hzr) i (SS l) (by rw [List.getElem?_map, hl]; rfl)
            have hlm : l ∈ L := List.mem_of_getElem? hl
            have Hll := Lib.hid (show l.length ≤ n by rw [Hn.out]; exact Tx.line_length _ bs (Nat.le_refl _) l (by rw [← HL.out]; exact hlm))
            have Hlnl := Lib.hid (line_noNl _ bs (Nat.le_refl _) l (by rw [← HL.out]; exact hlm))
            have Hl := Lib.hid hl
            have Hcw := Lib.hid (show ∀ v ∈ Tx.words l, Tx.clean v ∧ Tx.noNl v from fun v hv => ⟨(Tx.words_clean hv).1, fun c hc => Hlnl.out c ((Tx.words_clean hv).2 c hc)⟩)
            subst hAL
            obtain ⟨WS, hWS⟩ : ∃ WS, WS = Tx.words l := ⟨_, rfl⟩
            obtain ⟨kw, hkw⟩ : ∃ kw, kw = WS.length := ⟨_, rfl⟩
            have hwo := fun w => Words_calls l w (by have := Hll.out; omega)
            unfold RowSaid at hwo
            have hwl := wl_words l
            have hkl2 := wl_len WS
            rw [← hWS] at hwl Hcw
            simp only [← hWS, ← hkw] at hwo
            have Hwo := Lib.hid hwo; have Hwlw := Lib.hid (show wl WS ≤ 10 * l.length from hwl); have HWS := Lib.hid hWS; have Hkw := Lib.hid hkw; have Hkw2 := Lib.hid (show kw ≤ wl WS by rw [hkw]; exact hkl2)
            clear hwo hwl hkl2 hWS hkw
            have hst : (((wc.cell? ⟨wr.heap.size, 0, none⟩ = some (.int .i64 e) ∧ wc.cell? ⟨wr.heap.size, 1, none⟩ = some (.int .i64 a)) ∧ wc.cell? ⟨wr.heap.size, 2, none⟩ = some (.int .i64 b) ∧ wc.cell? ⟨wr.heap.size, 3, none⟩ = some (.int .i64 c)) ∧ wc.cell? ⟨wr.heap.size, 4, none⟩ = some (.bool h) ∧ wc.cell? ⟨wr.heap.size, 5, none⟩ = some (SS s)) ∧ wc.cell? ⟨bl, ofl + i, none⟩ = some (SS l) := ⟨⟨⟨⟨hd5.c0, hd5.c1⟩, hd5.c2, hd5.c3⟩, hd5.c4, hd5.c5⟩, hcell⟩
            have HDlen := Lib.hid (show (Tx.text D).length ≤ 73000000 by
              have h1 := Hlen.out
              have h2 := sum_take L i
              have h3 := lines_sum _ bs (Nat.le_refl _)
              rw [← HL.out, ← Hn.out] at h3
              omega)
            have Hb5 := Lib.hid hb5; have Hz5 := Lib.hid hz5; have Hfit := Lib.hid hfit
            have Hbu5 := Lib.hid (Hbu.out.below hb5)
            have Hbl := Lib.hid hbl
            clear hb5 hz5 hfit hd5 hl hlm hbl hcell
            go_upto_region 14 with fail
            go_region_held3 (fun w' => (((w'.cell? ⟨wr.heap.size, 0, none⟩ = some (.int .i64 e) ∧ w'.cell? ⟨wr.heap.size, 1, none⟩ = some (.int .i64 a)) ∧ w'.cell? ⟨wr.heap.size, 2, none⟩ = some (.int .i64 b) ∧ w'.cell? ⟨wr.heap.size, 3, none⟩ = some (.int .i64 c)) ∧ w'.cell? ⟨wr.heap.size, 4, none⟩ = some (.bool h) ∧ w'.cell? ⟨wr.heap.size, 5, none⟩ = some (SS s)) ∧ w'.cell? ⟨bl, ofl + i, none⟩ = some (SS l))
              ((rename (((_ ∧ _) ∧ _ ∧ _) ∧ _ ∧ _) ∧ _ => hS; first | (with_reducible exact hS) | exact hS))
              ((first
                | (go_at_call 33; rename (((_ ∧ _) ∧ _ ∧ _) ∧ _ ∧ _) ∧ _ => hS; refine (Hwo.out _).mono ?_; rintro e6 w6 ⟨A6, cap6, rfl, hown6, hb6⟩; have Hown6 := Lib.hid hown6; have Hb6 := Lib.hid (show Below wc.heap.size wc w6 from ((Below.refl wc.heap.size wc).drew).trans hb6); have hS9 := s6 hS (hb6.block wr.heap.size (by have := Hz5.out; show _ < wc.heap.size; omega)) (hb6.block bl (by have := Hz5.out; have := Hbl.out; show _ < wc.heap.size; omega)); clear hown6 hb6)
                | (go_at_call 32; rename (((_ ∧ _) ∧ _ ∧ _) ∧ _ ∧ _) ∧ _ => hS; refine (dressed_calls A6 kw cap6 WS e a b c h s w6.heap.size _ Hkw.out Hcw.out (by have := Hwlw.out; have := Hll.out; omega) (own_rd Hown6.out) (Nat.le_refl _) Hfit.out.1 Hfit.out.2.1 Hfit.out.2.2.1 Hfit.out.2.2.2.1 Hfit.out.2.2.2.2 (by have := Hwlw.out; have := Hll.out; have := Hkw2.out; omega)).mono ?_; rintro e7 w7 ⟨A7, X7, n7, cap7, xs7, body7, rfl, hbu7, hrest7⟩; have Hbu7 := Lib.hid hbu7; have Hrest7 := Lib.hid hrest7; have hS9' := s6 hS (hbu7.2.block wr.heap.size (by have := Hz5.out; have := Hb6.out.size; show _ < w6.heap.size; omega)) (hbu7.2.block bl (by have := Hz5.out; have := Hbl.out; have := Hb6.out.size; show _ < w6.heap.size; omega)); clear hbu7 hrest7)
                | (rename (((_ ∧ _) ∧ _ ∧ _) ∧ _ ∧ _) ∧ _ => hS; refine step_buf_rd (w0 := w2) rfl (.tmp 77) (.tmp 84) rfl (.slice A1 n1 cap1) (Tx.text D) rfl ((Hbu5.out.below Hb6.out).below Hbu7.out.2) A7 n7 cap7 _ X7 rfl Hrest7.out.1 Hbu7.out.nn Hbu7.out.rd (by have := HDlen.out; have := Hrest7.out.2.2.2.2.2; have := Hwlw.out; have := Hll.out; omega) ?_; intro v9 w9 hb9 hg9; have hS10 := s6 hS (hg9.out.block wr.heap.size (by have := Hz5.out; have := Hb6.out.size; have := Hbu7.out.size; omega) (fun e => by have := (Hbu.out.1.lt _ e.symm).2; omega)) (hg9.out.block bl (by have := Hz5.out; have := Hbl.out; have := Hb6.out.size; have := Hbu7.out.size; omega) (fun e => by have := (Hbu.out.1.lt _ e.symm).1; have := Hbl.out; omega)))))
            have HS9 := Lib.hid hb9.out
            clear hst hS9 hS9' hS10
            (rename (((_ ∧ _) ∧ _ ∧ _) ∧ _ ∧ _) ∧ _ => hX; clear hX)
            obtain ⟨A9, n9, rfl, hc9, hm9⟩ := HS9.out.form
            go_wp2_with fail
            go_roundw
            case rel =>
              obtain ⟨r1, r2, r3, r4, r5, r6⟩ := Hrest7.out
              refine ⟨i + 1, D ++ (xs7 ++ [body7]), by congr 1, by omega, by rw [Tx.text_append, ← r2]; exact HS9.out, ?_, ?_, ?_⟩
              · rw [take_more Hl.out]
                exact Hdr.out.append (Tx.Drs.blanks xs7 (fun x hx => (r3 x hx).2) (.line (by rw [r5, HWS.out]) .nil))
              · intro x hx
                rcases List.mem_append.1 hx with h1 | h1
                · exact Hno.out x h1
                · rcases List.mem_append.1 h1 with h2 | h2
                  · exact (r3 x h2).1
                  · simp at h2; subst h2; exact r4
              · rw [Tx.text_append, ← r2, List.length_append, lsum_more Hl.out]
                have h1 := Hlen.out; have h2 := Hwlw.out
                omega
            case measure => simp [intOf]; omega
    · have q1 : ¬ (i : Int) < (kl : Int) := by omega
      have hdrs := Hdr.out
      rw [List.take_of_length_le (by rw [← Hkl.out]; omega), HL.out] at hdrs
      obtain ⟨T, hT⟩ : ∃ T, T = Tx.text D := ⟨_, rfl⟩
      have hTl : T.length ≤ 73000000 := by
        have h1 := Hlen.out
        have h2 := sum_take L i
        have h3 := lines_sum _ bs (Nat.le_refl _)
        rw [← HL.out, ← Hn.out] at h3
        rw [hT]; omega
      obtain ⟨e1, e2, e3, F, F', S, zb, f1, f2, f3, f4, f5, f6, f7, f8, f9, f10⟩ := blank_all hdrs Hno.out
      have hch := blank_ch hdrs Hno.out z
      obtain ⟨g1, g2, G, G', S2, zb2, h1, h2, h3, h4, h5, h6, h7, h8, h9, h10⟩ := hch
      have hbT := Hbu.out
      rw [← hT] at hbT e1 e2 e3 f2 f4 g1 g2 h2 h4
      have hn1T : n1 = T.length := by rw [hT]; exact Hn1.out
      have hBb := Hb2.out.trans (hbT.2.mono (by omega))
      have hcN := hbT.nn
      have hrT := hbT.rd
      have hpb := Parse_calls A n cap w.heap.size bs wr Hn.out (by omega) hcap Hnil.out hBb.size (Hr.out.below hBb (Nat.le_refl _))
      unfold ParseSaid at hpb
      rw [f1] at hpb
      have hpt := fun (w9 : World) (hb : Below wr.heap.size wr w9) => Parse_calls A1 n1 cap1 wr.heap.size T w9 hn1T (by omega) hcc1 hcN hb.size (hrT.below hb (Nat.le_refl _))
      unfold ParseSaid at hpt
      rw [e1, e2, e3, f2] at hpt
      have hsb := fun (j : Int) (w9 : World) (hb : Below w.heap.size w w9) => spoken_calls A n cap w.heap.size bs j w9 Hn.out (by omega) hcap Hc.out Hnil.out hb.size (Hr.out.below hb (Nat.le_refl _))
      have hst := fun (j : Int) (w9 : World) (hb : Below wr.heap.size wr w9) => spoken_calls A1 n1 cap1 wr.heap.size T j w9 hn1T (by omega) hcc1 hcm1 hcN hb.size (hrT.below hb (Nat.le_refl _))
      have hcb := fun (w9 : World) (hb : Below w.heap.size w w9) => Changes_calls A n cap w.heap.size bs z w9 Hn.out (by omega) hcap Hc.out Hnil.out hb.size (Hr.out.below hb (Nat.le_refl _))
      have hct := fun (w9 : World) (hb : Below wr.heap.size wr w9) => Changes_calls A1 n1 cap1 wr.heap.size T z w9 hn1T (by omega) hcc1 hcm1 hcN hb.size (hrT.below hb (Nat.le_refl _))
      unfold ChangesSaid at hcb hct
      rw [g1, g2, h2] at hct
      rw [h1] at hcb
      have hs1 := hsb F; have hs2 := hst F'; have hs3 := hsb G; have hs4 := hst G'
      rw [f3] at hs1
      rw [f4] at hs2
      rw [h3] at hs3
      rw [h4] at hs4
      generalize (Tx.all bs).eEnd = E at *
      generalize (Tx.all bs).pEnd = PE at *
      generalize (if E = 0 then (Tx.all bs).n else 0) = M at *
      generalize (Tx.chRun z (Tx.pieces bs)).out = CO at *
      generalize (Tx.chRun z (Tx.pieces bs)).e = CE at *
      have Hpb := Lib.hid hpb; have Hpt := Lib.hid hpt; have Hs1 := Lib.hid hs1; have Hs2 := Lib.hid hs2; have Hs3 := Lib.hid hs3; have Hs4 := Lib.hid hs4; have Hcb := Lib.hid hcb; have Hct := Lib.hid hct
      have HBb := Lib.hid hBb; have Hwz := Lib.hid hBb.size
      clear hpb hpt hsb hst hcb hct hs1 hs2 hs3 hs4 hdrs hT hTl e1 e2 e3 f1 f2 f3 f4 f7 f8 f9 f10 g1 g2 h1 h2 h3 h4 h7 h8 h9 h10 hbT hn1T hBb hcN hrT hlt
      go_wp2_with fail
      refine (Hpb.out).mono ?_
      rintro en w4 ⟨Al4, capl4, rfl, hown4, hb4⟩
      have hcp4 := own_cap_s hown4
      have hr4 := own_rd_s hown4
      have Hr4 := Lib.hid hr4; have Hb4 := Lib.hid hb4
      clear hown4 hr4 hb4
      go_wp2_with fail
      refine (Hpt.out w4 Hb4.out).mono ?_
      rintro en w5 ⟨Al5, capl5, rfl, hown5, hb5⟩
      have hcp5 := own_cap_s hown5
      have Hsp := Lib.hid (sameP_eq Al4 Al5 PE.length capl4 capl5 _ _ PE w5 rfl hcp4.1 hcp5.1 hcp4.2 hcp5.2 (Hr4.out.below hb5 (Nat.le_refl _)) (own_rd_s hown5))
      have Hb5 := Lib.hid (Hb4.out.trans (hb5.mono Hb4.out.size))
      clear hown5 hb5 hcp4 hcp5
      go_wp2_with fail
      refine (Hsp.out).mono ?_
      rintro en w6 ⟨rfl, q6, rfl⟩
      have Hb6 := Lib.hid (below_drewN Hb5.out q6)
      generalize w5.drewN q6 = w6 at *
      clear Hsp
      go_wp2_with (go_at_call 19; refine (num_calls _ _).mono ?_; rintro en w99 ⟨rfl, rfl⟩)
      refine (Hs1.out w6 (HBb.out.trans (Hb6.out.mono HBb.out.size))).mono ?_
      rintro en w7 ⟨rfl, hb7⟩
      have Hb7 := Lib.hid (Hb6.out.trans (hb7.mono Hb6.out.size))
      clear hb7
      go_wp2_with (go_at_call 19; refine (num_calls _ _).mono ?_; rintro en w99 ⟨rfl, rfl⟩)
      refine (Hs2.out w7 Hb7.out).mono ?_
      rintro en w8 ⟨rfl, hb8⟩
      have Hb8 := Lib.hid (Hb7.out.trans (hb8.mono Hb7.out.size))
      clear hb8
      go_wp2_with fail
      refine (Hcb.out w8 (HBb.out.trans (Hb8.out.mono HBb.out.size))).mono ?_
      rintro en w9 ⟨Al9, capl9, rfl, hown9, hb9⟩
      have hcp9 := own_cap_s hown9
      have Hr9 := Lib.hid (own_rd_s hown9)
      have Hb9 := Lib.hid (Hb8.out.trans (hb9.mono Hb8.out.size))
      clear hown9 hb9
      go_wp2_with fail
      refine (Hct.out w9 Hb9.out).mono ?_
      rintro en w10 ⟨Al10, capl10, rfl, hown10, hb10⟩
      have hcp10 := own_cap_s hown10
      have Hsc := Lib.hid (sameC_eq Al9 Al10 CO.length capl9 capl10 _ _ CO w10 rfl hcp9.1 hcp10.1 hcp9.2 hcp10.2 (Hr9.out.below hb10 (Nat.le_refl _)) (own_rd_s hown10))
      have Hb10 := Lib.hid (Hb9.out.trans (hb10.mono Hb9.out.size))
      clear hown10 hb10 hcp9 hcp10
      go_wp2_with fail
      refine (Hsc.out).mono ?_
      rintro en w11 ⟨rfl, q11, rfl⟩
      have Hb11 := Lib.hid (below_drewN Hb10.out q11)
      generalize w10.drewN q11 = w11 at *
      clear Hsc
      go_wp2_with (go_at_call 19; refine (num_calls _ _).mono ?_; rintro en w99 ⟨rfl, rfl⟩)
      refine (Hs3.out w11 (HBb.out.trans (Hb11.out.mono HBb.out.size))).mono ?_
      rintro en w12 ⟨rfl, hb12⟩
      have Hb12 := Lib.hid (Hb11.out.trans (hb12.mono Hb11.out.size))
      clear hb12
      go_wp2_with (go_at_call 19; refine (num_calls _ _).mono ?_; rintro en w99 ⟨rfl, rfl⟩)
      refine (Hs4.out w12 Hb12.out).mono ?_
      rintro en w13 ⟨rfl, hb13⟩
      have Hb13 := Lib.hid (Hb12.out.trans (hb13.mono Hb12.out.size))
      clear hb13
      go_wp2_with fail
      go_ret
      exact ⟨by simp, HBb.out.trans (Hb13.out.mono HBb.out.size)⟩
end Go.Proofs.YtgoobadkbndfgaaDoor
