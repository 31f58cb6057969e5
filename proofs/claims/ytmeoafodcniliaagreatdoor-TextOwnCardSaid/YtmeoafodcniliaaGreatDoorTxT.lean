/- (*Edges).scan -/
import Derived.Test.YtmeoafodcniliaaGreatDoorTxS
namespace Go.Proofs.YtmeoafodcniliaaGreatDoor.C4
open Go.RowKit
set_option linter.unusedSimpArgs false
set_option linter.unusedVariables false
theorem agg_of {P : Program} {ty : TypeId} (h : (P.underlying ty).map aggDesc = some true) : ∃ d, P.underlying ty = some d ∧ aggDesc d = true := by
  cases hu : P.underlying ty with
  | none => rw [hu] at h; cases h
  | some d => rw [hu] at h; exact ⟨d, rfl, by simpa using h⟩
theorem results_cell3 {P : Program} {fn : Func} {p u v : Tmp} {ty : TypeId} (h : fn.results = #[.cell p ty, .tmp u, .tmp v]) (tmps : Array Value) (w : World) (g : Nat) (t : TypeId) (cs : Array Value) (fr : Nat × Nat)
    (hp : tmps.getD p undef = .pointer (some ⟨g, 0, none⟩)) (hg : w.heap[g]? = some (.cells cs t fr))
    (hu : (P.underlying ty).map aggDesc = some true) (hi : (P.info? ty).map (·.size) = some cs.size) :
    (results fn tmps).run P w = .ok (.tuple #[.agg cs, tmps.getD u undef, tmps.getD v undef]) w := by
  have hp' : tmps[p]?.getD undef = .pointer (some ⟨g, 0, none⟩) := by simpa using hp
  obtain ⟨d, h1, h2⟩ := agg_of hu
  simp [results, h, hp', asAddr, run_loadVar_row w g t ty cs fr d hg h1 (by cases d <;> simp_all [aggDesc]) hi]
theorem pair_desc : (Tryz.prog.underlying 127).map aggDesc = some true := by kernel_rfl
theorem pair_size : (Tryz.prog.info? 127).map (·.size) = some 2 := by kernel_rfl
/-- A pair in memory. -/
def PaIs (w : World) (g : Nat) (p : Int × Int) : Prop := w.heap[g]? = some (.cells #[.int .i64 p.1, .int .i64 p.2] 127 (0, 0))
theorem PaIs.c0 {w : World} {g : Nat} {p : Int × Int} (h : PaIs w g p) : w.cell? ⟨g, 0, none⟩ = some (.int .i64 p.1) := by rw [cell_heap h]; rfl
theorem PaIs.c1 {w : World} {g : Nat} {p : Int × Int} (h : PaIs w g p) : w.cell? ⟨g, 1, none⟩ = some (.int .i64 p.2) := by rw [cell_heap h]; rfl
theorem PaIs.f {w : World} {g : Nat} {p : Int × Int} (h : PaIs w g p) (o : Nat) : w.frozen? ⟨g, o, none⟩ = false := by unfold PaIs at h; simp [World.frozen?, h]
theorem PaIs.s0 {w : World} {g : Nat} {p : Int × Int} (h : PaIs w g p) (x : Int) : PaIs (w.setCell ⟨g, 0, none⟩ (.int .i64 x)) g (x, p.2) := by unfold PaIs; rw [heap_set h]; rfl
theorem PaIs.s1 {w : World} {g : Nat} {p : Int × Int} (h : PaIs w g p) (y : Int) : PaIs (w.setCell ⟨g, 1, none⟩ (.int .i64 y)) g (p.1, y) := by unfold PaIs; rw [heap_set h]; rfl
theorem PaIs.keep {w w' : World} {g : Nat} {p : Int × Int} {ks : List Nat} (h : PaIs w g p) (hk : Keep ks w w') (hn : g ∉ ks) : PaIs w' g p := (hk.block g (lt_heap h) hn).trans h
theorem keep_set_new {ks : List Nat} {w w' : World} {g o : Nat} {v : Value} (h : Keep ks w w') (hg : w.heap.size ≤ g) : Keep ks w (w'.setCell ⟨g, o, none⟩ v) :=
  ⟨h.os, h.tape, h.output, by simp [World.setCell]; exact h.size, fun k hk hn => by
    rw [← h.block k hk hn]
    have hne : g ≠ k := by omega
    simp [World.setCell, Array.getElem?_modify, hne]⟩
theorem EdIs.other {w : World} {g : Nat} {rv : Value} {line fault n : Int} {b e : Bool} (h : EdIs w g rv line fault n b e) {k o : Nat} {v : Value} (hk : k ≠ g) : EdIs (w.setCell ⟨k, o, none⟩ v) g rv line fault n b e := by
  unfold EdIs at *
  rw [← h]; simp [World.setCell, Array.getElem?_modify, hk]
theorem PaIs.other {w : World} {g : Nat} {p : Int × Int} (h : PaIs w g p) {k o : Nat} {v : Value} (hk : k ≠ g) : PaIs (w.setCell ⟨k, o, none⟩ v) g p := by
  unfold PaIs at *
  rw [← h]; simp [World.setCell, Array.getElem?_modify, hk]
/-- The answer's cell, written. -/
theorem fin_pair {w w' : World} {g : Nat} {rv : Value} {line fault N : Int} {b e : Bool} {h : Nat} {p : Int × Int} {ks : List Nat} (hs : EdIs w' g rv line fault N b e) (hp : PaIs w' h p) (hk : Keep ks w w') (hg : h ≠ g) (hh : w.heap.size ≤ h) (u v : Int) :
    PaIs ((w'.setCell ⟨h, 0, none⟩ (.int .i64 u)).setCell ⟨h, 1, none⟩ (.int .i64 v)) h (u, v) ∧ EdIs ((w'.setCell ⟨h, 0, none⟩ (.int .i64 u)).setCell ⟨h, 1, none⟩ (.int .i64 v)) g rv line fault N b e ∧ Keep ks w ((w'.setCell ⟨h, 0, none⟩ (.int .i64 u)).setCell ⟨h, 1, none⟩ (.int .i64 v)) :=
  ⟨(hp.s0 u).s1 v, (hs.other hg).other hg, keep_set_new (keep_set_new hk hh) hh⟩
theorem own_cap {w : World} {base : Nat} {t : TypeId} {A : Option Addr} {n cap : Nat} {xs : List Value} (h : w.ownsRow base t 1 (.slice A n cap) n xs) : n ≤ cap ∧ cap ≤ maxLen := by
  obtain ⟨_, _, e, h1, h2, _⟩ := own_form h
  injection e with _ _ e; subst e; exact ⟨h1, h2⟩
theorem rd_keep {w w' : World} {B : Nat} {A : Option Addr} {vs : List Value} {ks : List Nat} (h : Rd w B A vs) (hB : B ≤ w.heap.size) (hk : Keep ks w w') (hA : ∀ a, A = some a → a.block ∉ ks) : Rd w' B A vs := by
  intro k v hv
  obtain ⟨b, off, he, hb, hc⟩ := h k v hv
  refine ⟨b, off, he, hb, ?_⟩
  have h1 := hk.block b (Nat.lt_of_lt_of_le hb hB) (hA _ he)
  rw [← hc]
  simp only [World.cell?]
  rw [h1]
theorem keep_alloc {ks : List Nat} {w w' : World} (h : Keep ks w w') (o : Obj) : Keep ks w (w'.alloc o) :=
  h.trans (Keep.of_below ((Below.refl _ _).alloc (Nat.le_refl _) o))
set_option maxHeartbeats 8000000 in
set_option maxRecDepth 20000 in
theorem scan_calls (g : Nat) (A : Option Addr) (n cap B : Nat) (bs : List (BitVec 8)) (rv : Value) (line fault N : Int) (b e : Bool) (w : World) (hn : n = bs.length) (hm : n ≤ 1099511627776) (hcap : n ≤ cap) (hnil : A = none → n = 0 ∧ cap = 0) (hB : B ≤ w.heap.size) (hr : Rd w B A (bs.map V8))
    (hgB : ∀ a, A = some a → a.block ≠ g) (hl0 : 0 ≤ line) (hl1 : line ≤ 1099511627776) (hs : EdIs w g rv line fault N b e) :
    Calls Tryz.prog 69 #[.pointer (some ⟨g, 0, none⟩), .slice A n cap] w fun en w' =>
      en = .returned (.tuple #[.agg #[.int .i64 (Tx.scan N b (Tx.words bs)).u, .int .i64 (Tx.scan N b (Tx.words bs)).v], .bool (Tx.scan N b (Tx.words bs)).says, .int .i64 (Tx.scan N b (Tx.words bs)).e]) ∧
      EdIs w' g rv (line + 1) fault (Tx.scan N b (Tx.words bs)).n (Tx.scan N b (Tx.words bs)).begun e ∧ Keep [g] w w' := by
  have hgl := hs.lt
  go_enter Tryz.func69, Tryz.ntmps69
  have hs0 : EdIs (w.alloc (.cells #[.int .i64 0, .int .i64 0] 127)) g rv line fault N b e := by
    unfold EdIs at *; rw [Below.heap_alloc _ _ _ hgl]; exact hs
  have hp0 : PaIs (w.alloc (.cells #[.int .i64 0, .int .i64 0] 127)) w.heap.size (0, 0) := heap_alloc_new _ _
  have c1 := hs0.c1; have f1 := hs0.f 1
  have Hs := Lib.hid hs; have Hr := Lib.hid hr; have Hn := Lib.hid hn; have Hnil := Lib.hid hnil
  clear hs hr hn hnil
  go_wp2_with fail
  have hk1 : Keep [g] w ((w.setCell ⟨g, 1, none⟩ (.int .i64 (line + 1))).alloc (.cells #[.int .i64 0, .int .i64 0] 127)) := keep_alloc (Keep.set w 1 _) _
  have hsz1 : ((w.setCell ⟨g, 1, none⟩ (.int .i64 (line + 1))).alloc (.cells #[.int .i64 0, .int .i64 0] 127)).heap.size = w.heap.size + 1 := by simp [World.setCell]
  have hs1 : EdIs ((w.setCell ⟨g, 1, none⟩ (.int .i64 (line + 1))).alloc (.cells #[.int .i64 0, .int .i64 0] 127)) g rv (line + 1) fault N b e := by
    have := Hs.out.s1 (line + 1)
    unfold EdIs at *; rw [Below.heap_alloc _ _ _ (by simp [World.setCell]; exact hgl)]; exact this
  have hp1 : PaIs ((w.setCell ⟨g, 1, none⟩ (.int .i64 (line + 1))).alloc (.cells #[.int .i64 0, .int .i64 0] 127)) w.heap.size (0, 0) := by
    have := heap_alloc_new (w.setCell ⟨g, 1, none⟩ (.int .i64 (line + 1))) (.cells #[.int .i64 0, .int .i64 0] 127)
    unfold PaIs; rw [← this]; simp [World.setCell]
  clear c1 f1 hs0 hp0
  generalize (w.setCell ⟨g, 1, none⟩ (.int .i64 (line + 1))).alloc (.cells #[.int .i64 0, .int .i64 0] 127) = w1 at *
  have hr1 := rd_keep Hr.out hB hk1 (fun a ha => by simp; exact hgB a ha)
  refine (words_calls A n cap B bs w1 Hn.out hm hcap Hnil.out (by omega) hr1).mono ?_
  rintro en w2 ⟨A2, cap2, rfl, hown2, hb2⟩
  have hs2 := hs1.below hb2 (by omega)
  have hp2 : PaIs w2 w.heap.size (0, 0) := hp1.keep (Keep.of_below (ks := []) hb2) (by simp)
  have hk2 : Keep [g] w w2 := hk1.trans (Keep.of_below hb2)
  have hr2 : Rd w2 B A (bs.map V8) := hr1.below hb2 (by omega)
  have hsz2 := hb2.size
  have hrow := own_rd hown2
  obtain ⟨hc1, hc2⟩ := own_cap hown2
  have hwords : Tx.words bs = (Tx.spans bs).map (Tx.cutOut bs) := rfl
  have hin := Tx.spans_in bs
  have hAs : Tx.spans bs ≠ [] → ∃ a, A = some a ∧ a.spot = none := by
    intro hne
    have h0 : 0 < bs.length := by
      rcases Nat.eq_zero_or_pos bs.length with h | h
      · have : bs = [] := List.eq_nil_of_length_eq_zero h
        subst this; exact absurd rfl hne
      · exact h
    obtain ⟨b', off', he, _, _⟩ := hr2 0 (V8 bs[0]) (by rw [List.getElem?_map, List.getElem?_eq_getElem h0]; rfl)
    exact ⟨_, he, rfl⟩
  have HA := Lib.hid hAs
  clear hAs
  have HW := Lib.hid hwords; have Hin := Lib.hid hin; have Hrow := Lib.hid hrow; have Hr2 := Lib.hid hr2
  clear hwords hin hrow hr1 hown2 hb2 hs1 hp1 hk1 hr2
  generalize Tx.spans bs = sp at *
  have Hs2 := Lib.hid hs2; have Hp2 := Lib.hid hp2; have Hk2 := Lib.hid hk2
  have done : ∀ {S : Tx.Sc} {w3 : World}, True := trivial
  clear hs2 hp2 hk2 done
  have HFin := Lib.hid (fun u v => fin_pair Hs2.out Hp2.out Hk2.out (show w.heap.size ≠ g by omega) (Nat.le_refl _) u v)
  have p0 := Hp2.out.c0; have p1 := Hp2.out.c1; have q0 := Hp2.out.f 0; have q1 := Hp2.out.f 1
  dsimp only at p0 p1
  cases sp with
  | nil =>
    have HS := Lib.hid (show Tx.scan N b (Tx.words bs) = ⟨0, 0, false, 0, N, b⟩ by rw [HW.out]; rfl)
    have HF := Lib.hid (HFin.out 0 0)
    clear HFin
    go_wp2_with fail
    refine bodyPost_ret (results_cell3 rfl _ _ w.heap.size 127 _ (0, 0) rfl HF.out.1 pair_desc pair_size) rfl ?_
    exact ⟨by rw [HS.out]; rfl, by rw [HS.out]; exact HF.out.2.1, HF.out.2.2⟩
  | cons p sp =>
    cases sp with
    | nil =>
      have HS := Lib.hid (show Tx.scan N b (Tx.words bs) = ⟨0, 0, false, 40, N, b⟩ by rw [HW.out]; rfl)
      have HF := Lib.hid (HFin.out 0 0)
      clear HFin
      go_wp2_with fail
      refine bodyPost_ret (results_cell3 rfl _ _ w.heap.size 127 _ (0, 0) rfl HF.out.1 pair_desc pair_size) rfl ?_
      exact ⟨by rw [HS.out]; rfl, by rw [HS.out]; exact HF.out.2.1, HF.out.2.2⟩
    | cons q sp =>
      cases sp with
      | cons r t =>
        have HS := Lib.hid (show Tx.scan N b (Tx.words bs) = ⟨0, 0, false, 40, N, b⟩ by rw [HW.out]; rfl)
        have HF := Lib.hid (HFin.out 0 0)
        have hlen : (((p :: q :: r :: t).length : Int) == 0) = false := by simp; omega
        have hlen2 : (((p :: q :: r :: t).length : Int) != 2) = true := by simp; omega
        generalize (p :: q :: r :: t).length = L at *
        clear HFin
        go_wp2_with fail
        refine bodyPost_ret (results_cell3 rfl _ _ w.heap.size 127 _ (0, 0) rfl HF.out.1 pair_desc pair_size) rfl ?_
        exact ⟨by rw [HS.out]; rfl, by rw [HS.out]; exact HF.out.2.1, HF.out.2.2⟩
      | nil =>
        obtain ⟨a, rfl, hsp⟩ := HA.out (by simp)
        obtain ⟨g2, o2, rfl, hg2, w0⟩ := Hrow.out 0 (VW (some a) p) rfl
        obtain ⟨g3, o3, he, hg3, w1'⟩ := Hrow.out 1 (VW (some a) q) rfl
        injection he with he; injection he with e1 e2
        subst e1 e2
        rw [Nat.add_zero] at w0
        have hp := Hin.out p (by simp)
        have hq := Hin.out q (by simp)
        have hlb : bs.length ≤ 1099511627776 := by rw [← Hn.out]; exact hm
        have b4 := Hs2.out.c4; have b3 := Hs2.out.c3
        have hL : [p, q].length = 2 := rfl
        have HWW := Lib.hid (show Tx.words bs = [Tx.cutOut bs p, Tx.cutOut bs q] from HW.out)
        rw [hL]
        cases b with
        | true =>
          have HT := Lib.hid (fun w3 (e : w2 = w3) => two_calls g2 o2 2 cap2 B a bs p q N w3 (by omega) hlb hsp hp hq (by subst e; exact w0) (by subst e; exact w1') (by subst e; exact Hr2.out))
          have HS := Lib.hid (show Tx.scan N true (Tx.words bs) = ⟨(Tx.two (Tx.cutOut bs p) (Tx.cutOut bs q) N).1, (Tx.two (Tx.cutOut bs p) (Tx.cutOut bs q) N).2.1, decide ((Tx.two (Tx.cutOut bs p) (Tx.cutOut bs q) N).2.2 = 0), (Tx.two (Tx.cutOut bs p) (Tx.cutOut bs q) N).2.2, N, true⟩ by rw [HWW.out]; rfl)
          generalize Tx.two (Tx.cutOut bs p) (Tx.cutOut bs q) N = T at *
          obtain ⟨u, v, E⟩ := T
          have HF := Lib.hid (HFin.out u v)
          have hE : (E == 0) = decide (E = 0) := by by_cases h : E = 0 <;> simp [h]
          have HE := Lib.hid hE
          clear HFin hp hq hlb w0 w1' hL hE
          go_wp2_with fail
          refine (HT.out w2 rfl).mono ?_
          rintro en w3 ⟨rfl, rfl⟩
          dsimp only at HF HS ⊢
          go_wp2_with fail
          refine bodyPost_ret (results_cell3 rfl _ _ w.heap.size 127 _ (0, 0) rfl HF.out.1 pair_desc pair_size) rfl ?_
          exact ⟨by rw [HS.out]; dsimp only; rw [← HE.out]; rfl, by rw [HS.out]; exact HF.out.2.1, HF.out.2.2⟩
        | false =>
          have HT := Lib.hid (fun w3 (e : w2 = w3) => number_calls (some ⟨a.block, a.off + q.1, a.spot⟩) q.2 q.2 B (Tx.cutOut bs q) w3 (cutOut_length bs q hq).symm (by omega) (by subst e; exact rd_cut q hsp Hr2.out))
          have hstr := run_bytes_str (P := Tryz.prog) (cap := p.2) 22 9 5 descU8s descU8 descStr (cutOut_length bs p hp).symm (by intro h; cases h) (rd_cut p hsp Hr2.out)
          have HS0 := Lib.hid (show Tx.scan N false (Tx.words bs) = if Tx.cutOut bs p ≠ Tx.vertices ∨ (Tx.num (Tx.cutOut bs q)).2 = false then ⟨0, 0, false, 40, N, false⟩ else if 16777216 < (Tx.num (Tx.cutOut bs q)).1 then ⟨0, 0, false, 41, N, false⟩ else ⟨0, 0, false, 0, (Tx.num (Tx.cutOut bs q)).1, true⟩ by rw [HWW.out]; rfl)
          have heq := str_eq (Tx.cutOut bs p) Tx.vertices
          generalize Tx.num (Tx.cutOut bs q) = x at *
          obtain ⟨x, xb⟩ := x
          clear hp hq hlb hL
          generalize Tx.cutOut bs p = wp at *
          dsimp only at HS0
          by_cases hv : wp = Tx.vertices
          · have hl : (strOf wp).toList = [118, 101, 114, 116, 105, 99, 101, 115] := by rw [hv, strOf_toList]; rfl
            cases xb with
            | false =>
              have HS := Lib.hid (show Tx.scan N false (Tx.words bs) = ⟨0, 0, false, 40, N, false⟩ by rw [HS0.out, if_pos (Or.inr rfl)])
              have HF := Lib.hid (HFin.out 0 0)
              clear HFin hv heq HS0
              go_wp2_with fail
              refine (HT.out w2 rfl).mono ?_
              rintro en w3 ⟨rfl, rfl⟩
              go_wp2_with fail
              refine bodyPost_ret (results_cell3 rfl _ _ w.heap.size 127 _ (0, 0) rfl HF.out.1 pair_desc pair_size) rfl ?_
              exact ⟨by rw [HS.out]; rfl, by rw [HS.out]; exact HF.out.2.1, HF.out.2.2⟩
            | true =>
              have HS1 := Lib.hid (show Tx.scan N false (Tx.words bs) = if 16777216 < x then ⟨0, 0, false, 41, N, false⟩ else ⟨0, 0, false, 0, x, true⟩ by rw [HS0.out, if_neg (by simp [hv])])
              by_cases hx : 16777216 < x
              · have HS := Lib.hid (show Tx.scan N false (Tx.words bs) = ⟨0, 0, false, 41, N, false⟩ by rw [HS1.out, if_pos hx])
                have HF := Lib.hid (HFin.out 0 0)
                clear HFin hv heq HS0 HS1
                go_wp2_with fail
                refine (HT.out w2 rfl).mono ?_
                rintro en w3 ⟨rfl, rfl⟩
                go_wp2_with fail
                refine bodyPost_ret (results_cell3 rfl _ _ w.heap.size 127 _ (0, 0) rfl HF.out.1 pair_desc pair_size) rfl ?_
                exact ⟨by rw [HS.out]; rfl, by rw [HS.out]; exact HF.out.2.1, HF.out.2.2⟩
              · have HS := Lib.hid (show Tx.scan N false (Tx.words bs) = ⟨0, 0, false, 0, x, true⟩ by rw [HS1.out, if_neg hx])
                have g3f := Hs2.out.f 3; have g4f := Hs2.out.f 4
                have hs3 : EdIs ((w2.setCell ⟨g, 3, none⟩ (.int .i64 x)).setCell ⟨g, 4, none⟩ (.bool true)) g rv (line + 1) fault x true e := (Hs2.out.s3 x).s4 true
                have hk3 : Keep [g] w ((w2.setCell ⟨g, 3, none⟩ (.int .i64 x)).setCell ⟨g, 4, none⟩ (.bool true)) := (Hk2.out.trans (Keep.set w2 3 _)).trans (Keep.set _ 4 _)
                have hp3 : PaIs ((w2.setCell ⟨g, 3, none⟩ (.int .i64 x)).setCell ⟨g, 4, none⟩ (.bool true)) w.heap.size (0, 0) := (Hp2.out.other (show g ≠ w.heap.size by omega)).other (show g ≠ w.heap.size by omega)
                have HF := Lib.hid (fin_pair hs3 hp3 hk3 (show w.heap.size ≠ g by omega) (Nat.le_refl _) 0 0)
                clear HFin hv heq HS0 HS1 hs3 hk3 hp3
                have hgne : g ≠ w.heap.size := by omega
                go_wp2_with fail
                refine (HT.out w2 rfl).mono ?_
                rintro en w3 ⟨rfl, rfl⟩
                go_wp2_with fail
                refine bodyPost_ret (results_cell3 rfl _ _ w.heap.size 127 _ (0, 0) rfl HF.out.1 pair_desc pair_size) rfl ?_
                exact ⟨by rw [HS.out]; rfl, by rw [HS.out]; exact HF.out.2.1, HF.out.2.2⟩
          · have hl : ¬ (strOf wp).toList = [118, 101, 114, 116, 105, 99, 101, 115] := by
              intro h
              apply hv
              have h2 : (strOf Tx.vertices).toList = [118, 101, 114, 116, 105, 99, 101, 115] := by rw [strOf_toList]; rfl
              have h3 := str_eq wp Tx.vertices
              rw [h, h2] at h3
              simpa using h3.symm
            have HS := Lib.hid (show Tx.scan N false (Tx.words bs) = ⟨0, 0, false, 40, N, false⟩ by rw [HS0.out, if_pos (Or.inl hv)])
            have HF := Lib.hid (HFin.out 0 0)
            clear HFin hv heq HS0
            go_wp2_with fail
            refine (HT.out w2 rfl).mono ?_
            rintro en w3 ⟨rfl, rfl⟩
            go_wp2_with fail
            refine bodyPost_ret (results_cell3 rfl _ _ w.heap.size 127 _ (0, 0) rfl HF.out.1 pair_desc pair_size) rfl ?_
            exact ⟨by rw [HS.out]; rfl, by rw [HS.out]; exact HF.out.2.1, HF.out.2.2⟩
end Go.Proofs.YtmeoafodcniliaaGreatDoor.C4
