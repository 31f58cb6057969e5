/- text.change -/
import Derived.Test.YtmeoafodcniliaaGreatDoorTxH
namespace Go.Proofs.YtmeoafodcniliaaGreatDoor.C4
open Go.RowKit
set_option linter.unusedSimpArgs false
set_option linter.unusedVariables false
namespace Tx
/-- What a change says. -/
structure Ch where
  u : Int
  v : Int
  gone : Bool
  e : Int
def change (ws : List (List By)) (n : Int) : Ch :=
  match ws with
  | [a, b, c] => if a = [43#8] ∨ a = [45#8] then ⟨(two b c n).1, (two b c n).2.1, decide (a = [45#8]), (two b c n).2.2⟩ else ⟨0, 0, false, 40⟩
  | _ => ⟨0, 0, false, 40⟩
end Tx
theorem results_cell2 {P : Program} {fn : Func} {p u : Tmp} {ty : TypeId} (h : fn.results = #[.cell p ty, .tmp u]) (tmps : Array Value) (w : World) (g : Nat) (t : TypeId) (cs : Array Value) (fr : Nat × Nat)
    (hp : tmps.getD p undef = .pointer (some ⟨g, 0, none⟩)) (hg : w.heap[g]? = some (.cells cs t fr))
    (hu : (P.underlying ty).map aggDesc = some true) (hi : (P.info? ty).map (·.size) = some cs.size) :
    (results fn tmps).run P w = .ok (.tuple #[.agg cs, tmps.getD u undef]) w := by
  have hp' : tmps[p]?.getD undef = .pointer (some ⟨g, 0, none⟩) := by simpa using hp
  obtain ⟨d, h1, h2⟩ := agg_of hu
  simp [results, h, hp', asAddr, run_loadVar_row w g t ty cs fr d hg h1 (by cases d <;> simp_all [aggDesc]) hi]
theorem ch_desc : (Tryz.prog.underlying 130).map aggDesc = some true := by kernel_rfl
theorem ch_size : (Tryz.prog.info? 130).map (·.size) = some 3 := by kernel_rfl
/-- A change in memory. -/
def ChIs (w : World) (g : Nat) (u v : Int) (b : Bool) : Prop := w.heap[g]? = some (.cells #[.int .i64 u, .int .i64 v, .bool b] 130 (0, 0))
theorem ChIs.s {w : World} {g : Nat} {u v : Int} {b : Bool} (h : ChIs w g u v b) (x y : Int) (c : Bool) : ChIs (((w.setCell ⟨g, 0, none⟩ (.int .i64 x)).setCell ⟨g, 1, none⟩ (.int .i64 y)).setCell ⟨g, 2, none⟩ (.bool c)) g x y c := by
  unfold ChIs at *
  rw [heap_set (heap_set (heap_set h 0 _) 1 _) 2 _]; rfl
theorem ChIs.c {w : World} {g : Nat} {u v : Int} {b : Bool} (h : ChIs w g u v b) : w.cell? ⟨g, 0, none⟩ = some (.int .i64 u) ∧ w.cell? ⟨g, 1, none⟩ = some (.int .i64 v) ∧ w.cell? ⟨g, 2, none⟩ = some (.bool b) := by
  refine ⟨?_, ?_, ?_⟩ <;> rw [cell_heap h] <;> rfl
theorem ChIs.f {w : World} {g : Nat} {u v : Int} {b : Bool} (h : ChIs w g u v b) (o : Nat) : w.frozen? ⟨g, o, none⟩ = false := by unfold ChIs at h; simp [World.frozen?, h]
theorem ch_below {w : World} (x y : Int) (c : Bool) (o : Obj) : Below w.heap.size w (((((w.alloc o).setCell ⟨w.heap.size, 0, none⟩ (.int .i64 x)).setCell ⟨w.heap.size, 1, none⟩ (.int .i64 y)).setCell ⟨w.heap.size, 2, none⟩ (.bool c))) :=
  ((((Below.refl _ _).alloc (Nat.le_refl _) o).setCell (Nat.le_refl _) _).setCell (Nat.le_refl _) _).setCell (Nat.le_refl _) _
set_option maxHeartbeats 4000000 in
set_option maxRecDepth 20000 in
theorem change_calls (A : Option Addr) (bs : List (BitVec 8)) (A2 : Option Addr) (cap2 B B2 : Nat) (n : Int) (w : World) (hm : bs.length ≤ 1099511627776) (hB : B ≤ w.heap.size) (hB2 : B2 ≤ w.heap.size)
    (hA : Tx.spans bs ≠ [] → ∃ a, A = some a ∧ a.spot = none) (hrow : Rd w B2 A2 ((Tx.spans bs).map (VW A))) (hr : Rd w B A (bs.map V8)) (hcap : (Tx.spans bs).length ≤ cap2) :
    Calls Tryz.prog 66 #[.slice A2 (Tx.spans bs).length cap2, .int .i64 n] w fun en w' =>
      en = .returned (.tuple #[.agg #[.int .i64 (Tx.change (Tx.words bs) n).u, .int .i64 (Tx.change (Tx.words bs) n).v, .bool (Tx.change (Tx.words bs) n).gone], .int .i64 (Tx.change (Tx.words bs) n).e]) ∧ Below w.heap.size w w' := by
  have hin := Tx.spans_in bs
  have hwords : Tx.words bs = (Tx.spans bs).map (Tx.cutOut bs) := rfl
  have hc0 : ChIs (w.alloc (.cells #[.int .i64 0, .int .i64 0, .bool false] 130)) w.heap.size 0 0 false := heap_alloc_new _ _
  have f0 := hc0.f 0; have f1 := hc0.f 1; have f2 := hc0.f 2
  have e0 := hc0.c.1; have e1 := hc0.c.2.1; have e2 := hc0.c.2.2
  have hb0 : Below w.heap.size w (w.alloc (.cells #[.int .i64 0, .int .i64 0, .bool false] 130)) := (Below.refl _ _).alloc (Nat.le_refl _) _
  have Hc0 := Lib.hid hc0; have HA := Lib.hid hA; have HW := Lib.hid hwords; have Hin := Lib.hid hin; have Hrow := Lib.hid (hrow.below hb0 hB2); have Hr := Lib.hid (hr.below hb0 hB)
  clear hin hwords hA hrow hr hc0 hb0
  generalize Tx.spans bs = sp at *
  go_enter Tryz.func66, Tryz.ntmps66
  by_cases h3 : sp.length = 3
  · obtain ⟨p, q, r, rfl⟩ : ∃ p q r, sp = [p, q, r] := by
      match sp, h3 with
      | [p, q, r], _ => exact ⟨p, q, r, rfl⟩
    obtain ⟨a, rfl, hsp⟩ := HA.out (by simp)
    obtain ⟨g2, o2, rfl, hg2, w0⟩ := Hrow.out 0 (VW (some a) p) rfl
    obtain ⟨g3, o3, he, hg3, w1⟩ := Hrow.out 1 (VW (some a) q) rfl
    injection he with he; injection he with e1' e2'
    subst e1' e2'
    obtain ⟨g3, o3, he, hg4, w2⟩ := Hrow.out 2 (VW (some a) r) rfl
    injection he with he; injection he with e1' e2'
    subst e1' e2'
    rw [Nat.add_zero] at w0
    have hp := Hin.out p (by simp)
    have hq := Hin.out q (by simp)
    have hr := Hin.out r (by simp)
    have hL : [p, q, r].length = 3 := rfl
    have HWW := Lib.hid (show Tx.words bs = [Tx.cutOut bs p, Tx.cutOut bs q, Tx.cutOut bs r] from HW.out)
    rw [hL] at hcap ⊢
    have HT := Lib.hid (fun w3 (e : w.alloc (.cells #[.int .i64 0, .int .i64 0, .bool false] 130) = w3) => two_calls g2 (o2 + 1) 2 (cap2 - 1) B a bs q r n w3 (by omega) hm hsp hq hr (by subst e; exact w1) (by subst e; exact w2) (by subst e; exact Hr.out))
    have hstr := run_bytes_str (P := Tryz.prog) (cap := p.2) 22 9 5 descU8s descU8 descStr (cutOut_length bs p hp).symm (by intro h; cases h) (rd_cut p hsp Hr.out)
    have HS0 := Lib.hid (show Tx.change (Tx.words bs) n = if Tx.cutOut bs p = [43#8] ∨ Tx.cutOut bs p = [45#8] then ⟨(Tx.two (Tx.cutOut bs q) (Tx.cutOut bs r) n).1, (Tx.two (Tx.cutOut bs q) (Tx.cutOut bs r) n).2.1, decide (Tx.cutOut bs p = [45#8]), (Tx.two (Tx.cutOut bs q) (Tx.cutOut bs r) n).2.2⟩ else ⟨0, 0, false, 40⟩ by rw [HWW.out]; rfl)
    have hlp := cutOut_length bs p hp
    have Hrp := Lib.hid (rd_cut p hsp Hr.out)
    obtain ⟨p1, p2⟩ := p
    generalize Tx.cutOut bs (p1, p2) = wp at *
    dsimp only at hlp Hrp hstr
    generalize Tx.two (Tx.cutOut bs q) (Tx.cutOut bs r) n = T at *
    obtain ⟨u, v, E⟩ := T
    have hone : ∀ c : BitVec 8, wp = [c] → p2 = 1 ∧ (w.alloc (.cells #[.int .i64 0, .int .i64 0, .bool false] 130)).cell? ⟨a.block, a.off + p1, none⟩ = some (V8 c) := by
      rintro c rfl
      refine ⟨by simpa using hlp.symm, ?_⟩
      obtain ⟨b, off, he, _, hc⟩ := Hrp.out 0 (V8 c) rfl
      injection he with he; injection he with h1 h2
      subst h1 h2
      simpa using hc
    have Hone := Lib.hid hone
    clear hp hq hr hL hlp hone h3
    by_cases hv : wp = [43#8]
    · subst hv
      have hl : (strOf [43#8]).toList = [43] := by rw [strOf_toList]; rfl
      obtain ⟨hp2, hpc⟩ := Hone.out _ rfl
      subst hp2
      have hpc' : (w.alloc (.cells #[.int .i64 0, .int .i64 0, .bool false] 130)).cell? ⟨a.block, a.off + p1, a.spot⟩ = some (.int .u8 43) := by rw [hsp]; exact hpc
      have HF := Lib.hid (show Tx.change (Tx.words bs) n = ⟨u, v, false, E⟩ by rw [HS0.out, if_pos (Or.inl rfl)]; rfl)
      clear Hone Hrp HS0
      go_wp2_with fail
      refine (HT.out _ rfl).mono ?_
      rintro en w3 ⟨rfl, rfl⟩
      dsimp only
      go_wp2_with fail
      refine bodyPost_ret (results_cell2 rfl _ _ w.heap.size 130 _ (0, 0) rfl (heap_alloc_new _ _) ch_desc ch_size) rfl ?_
      exact ⟨by rw [HF.out]; rfl, (Below.refl _ _).alloc (Nat.le_refl _) _⟩
    · by_cases hv2 : wp = [45#8]
      · subst hv2
        have hl : (strOf [45#8]).toList = [45] := by rw [strOf_toList]; rfl
        obtain ⟨hp2, hpc⟩ := Hone.out _ rfl
        subst hp2
        have hpc' : (w.alloc (.cells #[.int .i64 0, .int .i64 0, .bool false] 130)).cell? ⟨a.block, a.off + p1, a.spot⟩ = some (.int .u8 45) := by rw [hsp]; exact hpc
        have HF := Lib.hid (show Tx.change (Tx.words bs) n = ⟨u, v, true, E⟩ by rw [HS0.out, if_pos (Or.inr rfl)]; rfl)
        clear Hone Hrp HS0 hv
        go_wp2_with fail
        refine (HT.out _ rfl).mono ?_
        rintro en w3 ⟨rfl, rfl⟩
        dsimp only
        go_wp2_with fail
        refine bodyPost_ret (results_cell2 rfl _ _ w.heap.size 130 _ (0, 0) rfl (heap_alloc_new _ _) ch_desc ch_size) rfl ?_
        exact ⟨by rw [HF.out]; rfl, (Below.refl _ _).alloc (Nat.le_refl _) _⟩
      · have hl1 : ¬ (strOf wp).toList = [43] := by
          intro h
          apply hv
          have h2 : (strOf [43#8]).toList = [43] := by rw [strOf_toList]; rfl
          have h3 := str_eq wp [43#8]
          rw [h, h2] at h3
          simpa using h3.symm
        have hl2 : ¬ (strOf wp).toList = [45] := by
          intro h
          apply hv2
          have h2 : (strOf [45#8]).toList = [45] := by rw [strOf_toList]; rfl
          have h3 := str_eq wp [45#8]
          rw [h, h2] at h3
          simpa using h3.symm
        have HF := Lib.hid (show Tx.change (Tx.words bs) n = ⟨0, 0, false, 40⟩ by rw [HS0.out, if_neg (by rintro (h | h) <;> contradiction)])
        have hb1 : ((strOf wp).toList == [43]) = false := by simpa using hl1
        have hb2 : ((strOf wp).toList == [45]) = false := by simpa using hl2
        clear Hone Hrp HS0 hv hv2 HT
        go_wp2_with fail
        refine bodyPost_ret (results_cell2 rfl _ _ w.heap.size 130 _ (0, 0) rfl (heap_alloc_new _ _) ch_desc ch_size) rfl ?_
        exact ⟨by rw [HF.out]; rfl, (Below.refl _ _).alloc (Nat.le_refl _) _⟩
  · have HF := Lib.hid (show Tx.change (Tx.words bs) n = ⟨0, 0, false, 40⟩ by
      rw [HW.out]
      match sp, h3 with
      | [], _ => rfl
      | [_], _ => rfl
      | [_, _], _ => rfl
      | [_, _, _], h => exact absurd rfl h
      | _ :: _ :: _ :: _ :: _, _ => rfl)
    have hlen : ((sp.length : Int) != 3) = true := by simp; omega
    generalize sp.length = L at *
    clear h3
    go_wp2_with fail
    refine bodyPost_ret (results_cell2 rfl _ _ w.heap.size 130 _ (0, 0) rfl (heap_alloc_new _ _) ch_desc ch_size) rfl ?_
    exact ⟨by rw [HF.out]; rfl, (Below.refl _ _).alloc (Nat.le_refl _) _⟩
end Go.Proofs.YtmeoafodcniliaaGreatDoor.C4
