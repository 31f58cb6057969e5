/- feeders: whole, cut, tells, stands -/
import Derived.Test.YtgoobadkbndfgaaDoorFdM
import Derived.Test.YtgoobadkbndfgaaDoorRfE
import Derived.Maps.AppendAt
import Derived.BigQuiet
namespace Go.Proofs.YtgoobadkbndfgaaDoor
open Go.RowKit
set_option linter.unusedSimpArgs false
set_option linter.unusedVariables false
set_option maxHeartbeats 1000000 in
set_option maxRecDepth 20000 in
theorem whole_calls (A : Option Addr) (n cap B : Nat) (bs : List (BitVec 8)) (w : World) (hn : n = bs.length) (hm : n ≤ 274877906944) (hr : Rd w B A (bs.map V8)) :
    Calls Tryd.prog 46 #[.slice A n cap] w fun e w' => (∃ i : Nat, e = .returned (.int .i64 (i : Int)) ∧ Tx.WholeAt bs i) ∧ w = w' := by
  have Hn := Lib.hid hn; have Hr := Lib.hid hr
  clear hn hr
  go_enter Tryd.func46, Tryd.ntmps46
  go_wp2_with fail
  go_loopw [3] (fun iv wr => ∃ i : Nat, iv = .int .i64 (i : Int) ∧ i ≤ n ∧ Tx.NoNl bs i n ∧ w = wr) (fun iv _ => (intOf iv).toNat)
  case atStart => exact ⟨n, rfl, by omega, Tx.NoNl.start _ _, rfl⟩
  case round =>
    obtain ⟨i, rfl, hi, hno, rfl⟩ := hrel
    have Hno := Lib.hid hno
    clear hno
    by_cases h0 : 0 < i
    · have q0 : (0 : Int) < (i : Int) := by omega
      obtain ⟨c, hc⟩ : ∃ c, bs[i - 1]? = some c := ⟨bs[i - 1]'(by rw [← Hn.out]; omega), List.getElem?_eq_getElem _⟩
      obtain ⟨b, off, rfl, hb, hcell⟩ := Hr.out (i - 1) (V8 c) (by rw [List.getElem?_map, hc]; rfl)
      obtain ⟨j, rfl⟩ : ∃ j, i = j + 1 := ⟨i - 1, by omega⟩
      rw [show j + 1 - 1 = j by omega] at hc hcell
      have Hc := Lib.hid hc
      have q1 : (j : Int) < (n : Int) := by omega
      have q2 : ((j + 1 : Nat) : Int) - 1 = (j : Int) := by omega
      clear hc
      by_cases h10 : n8 c = 10
      · have s1 : ((n8 c : Int) == 10) = true := by simp; omega
        have Hw := Lib.hid (Tx.wholeAt_of (T := bs) (i := j + 1) (by rw [← Hn.out]; omega) (by rw [← Hn.out]; exact Hno.out) (Or.inr ⟨c, Hc.out, h10⟩))
        clear h10
        go_wp2_with fail
        go_ret
        exact ⟨⟨j + 1, rfl, Hw.out⟩, rfl⟩
      · have s1 : ((n8 c : Int) == 10) = false := by simp; omega
        have Hno2 := Lib.hid (show Tx.NoNl bs j n from fun k d h1 h2 h3 => by
          by_cases hk : k = j
          · subst hk; rw [Hc.out] at h3; injection h3 with h3; subst h3; exact h10
          · exact Hno.out k d (by omega) h2 h3)
        clear h10
        go_wp2_with fail
        go_roundw
        case rel => exact ⟨j, rfl, by omega, Hno2.out, trivial⟩
        case measure => (first | (simp [intOf]; done) | (simp [intOf]; omega))
    · obtain rfl : i = 0 := by omega
      have Hw := Lib.hid (Tx.wholeAt_of (T := bs) (i := 0) (by omega) (by rw [← Hn.out]; exact Hno.out) (Or.inl rfl))
      clear h0
      go_wp2_with fail
      go_ret
      exact ⟨⟨0, rfl, Hw.out⟩, rfl⟩
/-- What cut answers. -/
def CutSaid (A : Option Addr) (n cap B : Nat) (bs : List (BitVec 8)) (w : World) (e : Ending) (w' : World) : Prop :=
  ∃ (T : Nat) (A2 : Option Addr) (cap2 : Nat) (q : Nat), e = .returned (.tuple #[.slice A T cap, .slice A2 (n - T) cap2]) ∧ T ≤ n ∧ n - T ≤ cap2 ∧ cap2 ≤ maxLen ∧ (A2 = none → n - T = 0 ∧ cap2 = 0) ∧ (A = none → T = 0) ∧ Rd w' B A2 ((bs.drop T).map V8) ∧ w' = w.drewN q
set_option maxHeartbeats 1000000 in
theorem cutL_calls (A : Option Addr) (n cap B : Nat) (bs : List (BitVec 8)) (z : Int) (w : World) (hn : n = bs.length) (hm : n ≤ 65536) (hcap : n ≤ cap) (hcm : cap ≤ maxLen) (hnil : A = none → n = 0 ∧ cap = 0) (hr : Rd w B A (bs.map V8)) (hz0 : -9223372036854775808 ≤ z) (hz1 : z ≤ 9223372036854775807) :
    Calls Tryd.prog 21 #[.slice A n cap, .int .i64 z] w (CutSaid A n cap B bs w) := by
  obtain ⟨T, hT, hrem⟩ := rem_cut z n hm
  have h1 := Int.tmod_lt_of_pos z (show (0 : Int) < (n : Int) + 1 by omega)
  have h2 := Int.lt_tmod_of_pos z (show (0 : Int) < (n : Int) + 1 by omega)
  have Hn := Lib.hid hn; have Hr := Lib.hid hr; have Hc := Lib.hid hcm
  unfold maxLen at hcm
  have hTi : (T : Int) ≤ (n : Int) := by omega
  have hTc : (T : Int) ≤ (cap : Int) := by omega
  have hnc : (n : Int) ≤ (cap : Int) := by omega
  cases A with
  | none =>
    obtain ⟨rfl, rfl⟩ := hnil rfl
    obtain rfl : T = 0 := by omega
    clear hn hr hnil
    go_enter Tryd.func21, Tryd.ntmps21
    go_wp2_with fail
    go_big_quiet (fail)
    go_wp2_with fail
    go_ret2
    refine ⟨0, none, 0, nq, rfl, by omega, by omega, by unfold maxLen; omega, fun _ => ⟨rfl, rfl⟩, fun _ => rfl, ?_, rfl⟩
    rw [List.eq_nil_of_length_eq_zero Hn.out.symm]
    exact Rd.nil _ _ _
  | some ad =>
    clear hn hr hnil
    go_enter Tryd.func21, Tryd.ntmps21
    by_cases hcT : cap = T
    · have Hq := Lib.hid (show Rd w B (some ad) ((bs.drop T).map V8) by
        have := rd_from (T := T) Hr.out (show bs.length ≤ cap by rw [← Hn.out]; exact hcap)
        rwa [if_pos hcT] at this)
      subst hcT
      obtain rfl : n = cap := by omega
      go_wp2_with fail
      go_big_quiet (fail)
      go_wp2_with fail
      go_ret2
      exact ⟨n, some ad, 0, nq, by rw [Nat.sub_self]; rfl, hT, by omega, by unfold maxLen; omega, (by intro h; cases h), (by intro h; cases h), Hq.out, rfl⟩
    · go_wp2_with fail
      go_big_quiet (fail)
      go_wp2_with fail
      go_ret2
      refine ⟨T, some (ad.add T), cap - T, nq, rfl, hT, by omega, by unfold maxLen; omega, (by intro h; cases h), (by intro h; cases h), ?_, rfl⟩
      have := rd_from (T := T) Hr.out (show bs.length ≤ cap by rw [← Hn.out]; exact hcap)
      rw [if_neg hcT] at this
      exact this
/-- A feeder in memory. -/
def FeIs (w : World) (g : Nat) (sv fv : Value) (told : Int) (ended : Bool) : Prop := w.heap[g]? = some (.cells #[sv, fv, .int .i64 told, .bool ended] 42 (0, 0))
section
variable {w : World} {g : Nat} {sv fv : Value} {n : Int} {e : Bool}
theorem FeIs.c0 (h : FeIs w g sv fv n e) : w.cell? ⟨g, 0, none⟩ = some sv := by rw [cell_heap h]; rfl
theorem FeIs.c1 (h : FeIs w g sv fv n e) : w.cell? ⟨g, 1, none⟩ = some fv := by rw [cell_heap h]; rfl
theorem FeIs.c2 (h : FeIs w g sv fv n e) : w.cell? ⟨g, 2, none⟩ = some (.int .i64 n) := by rw [cell_heap h]; rfl
theorem FeIs.c3 (h : FeIs w g sv fv n e) : w.cell? ⟨g, 3, none⟩ = some (.bool e) := by rw [cell_heap h]; rfl
theorem FeIs.f (h : FeIs w g sv fv n e) (o : Nat) : w.frozen? ⟨g, o, none⟩ = false := by unfold FeIs at h; simp [World.frozen?, h]
theorem FeIs.lt (h : FeIs w g sv fv n e) : g < w.heap.size := lt_heap h
theorem FeIs.s1 (h : FeIs w g sv fv n e) (x : Value) : FeIs (w.setCell ⟨g, 1, none⟩ x) g sv x n e := by unfold FeIs; rw [heap_set h]; rfl
theorem FeIs.s2 (h : FeIs w g sv fv n e) (x : Int) : FeIs (w.setCell ⟨g, 2, none⟩ (.int .i64 x)) g sv fv x e := by unfold FeIs; rw [heap_set h]; rfl
theorem FeIs.s3 (h : FeIs w g sv fv n e) (x : Bool) : FeIs (w.setCell ⟨g, 3, none⟩ (.bool x)) g sv fv n x := by unfold FeIs; rw [heap_set h]; rfl
theorem FeIs.keep {w' : World} {ks : List Nat} (h : FeIs w g sv fv n e) (hk : Keep ks w w') (hn : g ∉ ks) : FeIs w' g sv fv n e := (hk.block g (lt_heap h) hn).trans h
theorem FeIs.below {w' : World} (h : FeIs w g sv fv n e) {B : Nat} (hk : Below B w w') (hn : g < B) : FeIs w' g sv fv n e := (hk.block g hn).trans h
end
abbrev VFi (N : Int) (s : Bool) (pv : Value) (l e : Int) : Value := .agg #[.int .i64 N, .bool s, pv, .int .i64 l, .int .i64 e]
theorem rd_pcs_drop {w : World} {B : Nat} {A : Option Addr} {ps : List (Int × Int)} {cap : Nat} (T : Nat) (hT : T ≤ ps.length) (hc : ps.length ≤ cap) (h : Rd w B A (pcs ps)) : Rd w B (if cap = T then A else A.map (fun a => a.add (T * 2))) (pcs (ps.drop T)) := by
  by_cases h0 : cap = T
  · rw [List.drop_eq_nil_of_le (by omega)]; exact Rd.nil _ _ _
  · rw [if_neg h0]
    intro j v hv
    have e : pcs ps = pcs (ps.take T) ++ pcs (ps.drop T) := by rw [← pcs_append, List.take_append_drop]
    have hl : (pcs (ps.take T)).length = T * 2 := by rw [pcs_length, List.length_take, Nat.min_eq_left hT]
    obtain ⟨b, off, hA, hb, hcell⟩ := h (T * 2 + j) v (by rw [e, List.getElem?_append_right (by omega), hl]; simpa using hv)
    subst hA
    exact ⟨b, off + T * 2, by rw [Option.map_some, Addr.add_lit], hb, by rw [Nat.add_assoc]; exact hcell⟩
set_option maxHeartbeats 1000000 in
set_option maxRecDepth 20000 in
theorem tells_calls (gf : Nat) (sv fv : Value) (told : Nat) (Al : Option Addr) (capl : Nat) (e : Int) (N : Int) (sd : Bool) (Ad : Option Addr) (capd : Nat) (L E : Int) (ps : List (Int × Int)) (Bl Bd : Nat) (w : World)
    (hf : FeIs w gf sv fv told false) (ht : told ≤ ps.length) (hps : ps.length ≤ 1000000) (hcl : ps.length - told ≤ capl) (hcl2 : capl ≤ maxLen) (hcd : ps.length ≤ capd) (hcd2 : capd ≤ maxLen) (hnd : Ad = none → ps.length = 0 ∧ capd = 0)
    (hrl : Rd w Bl Al (pcs (ps.drop told))) (hrd : Rd w Bd Ad (pcs ps)) :
    Calls Tryd.prog 47 #[.pointer (some ⟨gf, 0, none⟩), .slice Al (ps.length - told) capl, .int .i64 e, VFi N sd (.slice Ad ps.length capd) L E, .int .i64 e] w fun en w' => en = .returned (.bool true) ∧ FeIs w' gf sv fv ps.length (e != 0) ∧ Keep [gf] w w' := by
  have hb1 : Below w.heap.size w (w.alloc (.cells #[.int .i64 N, .bool sd, .slice Ad ps.length capd, .int .i64 L, .int .i64 E] 88)) := (Below.refl _ _).alloc (Nat.le_refl _) _
  have hf1 := hf.below hb1 hf.lt
  have hfi : FiIs (w.alloc (.cells #[.int .i64 N, .bool sd, .slice Ad ps.length capd, .int .i64 L, .int .i64 E] 88)) w.heap.size N sd (.slice Ad ps.length capd) L E := heap_alloc_new _ _
  have hk1 : Keep [gf] w (w.alloc (.cells #[.int .i64 N, .bool sd, .slice Ad ps.length capd, .int .i64 L, .int .i64 E] 88)) := Keep.of_below hb1
  have hlt := hf.lt
  have hrl1 : Rd (w.alloc (.cells #[.int .i64 N, .bool sd, .slice Ad ps.length capd, .int .i64 L, .int .i64 E] 88)) Bl Al (pcs (ps.drop told)) := fun k v hv => by
    obtain ⟨b, off, h1, h2, h3⟩ := hrl k v hv
    exact ⟨b, off, h1, h2, (hb1.cell (p := ⟨b, off + k, none⟩) (block_lt_of_cell h3)).trans h3⟩
  have hrd1 : Rd (w.alloc (.cells #[.int .i64 N, .bool sd, .slice Ad ps.length capd, .int .i64 L, .int .i64 E] 88)) Bd Ad (pcs ps) := fun k v hv => by
    obtain ⟨b, off, h1, h2, h3⟩ := hrd k v hv
    exact ⟨b, off, h1, h2, (hb1.cell (p := ⟨b, off + k, none⟩) (block_lt_of_cell h3)).trans h3⟩
  have hdr := rd_pcs_drop told ht hcd hrd1
  have Hf1 := Lib.hid hf1; have Hfi := Lib.hid hfi; have Hk1 := Lib.hid hk1; have Hrl := Lib.hid hrl1; have Hdr := Lib.hid hdr
  have hcl2' := hcl2; have hcd2' := hcd2
  unfold maxLen at hcl2' hcd2'
  clear hf hrl hrd hb1 hf1 hfi hk1 hrl1 hrd1 hdr
  go_enter Tryd.func47, Tryd.ntmps47
  go_wp2_with fail
  generalize w.alloc (.cells #[.int .i64 N, .bool sd, .slice Ad ps.length capd, .int .i64 L, .int .i64 E] 88) = w1 at *
  have g2 := Hf1.out.c2
  have p2 := Hfi.out.c2
  have tt : decide (ps.length < told) = false := decide_eq_false (by omega)
  have i1 : (told : Int) ≤ (ps.length : Int) := by omega
  have i2 : (ps.length : Int) ≤ (capd : Int) := by omega
  have i3 : (told : Int) ≤ (capd : Int) := by omega
  have hdl : ps.length - told = (ps.drop told).length := by rw [List.length_drop]
  have Hdl := Lib.hid hdl
  clear hdl
  go_big_quiet (fail)
  have Hf2 := Lib.hid (show FeIs (w1.drewN nq) gf sv fv told false from Hf1.out); have Hfi2 := Lib.hid (show FiIs (w1.drewN nq) w.heap.size N sd (.slice Ad ps.length capd) L E from Hfi.out); have Hk2 := Lib.hid (show Keep [gf] w (w1.drewN nq) from ⟨Hk1.out.os, Hk1.out.tape, Hk1.out.output, Hk1.out.size, Hk1.out.block⟩)
  have Hrl2 := Lib.hid (show Rd (w1.drewN nq) Bl Al (pcs (ps.drop told)) from Hrl.out)
  have Hdr2 := Lib.hid (show Rd (w1.drewN nq) Bd (if capd = told then Ad else Ad.map (fun a => a.add (told * 2))) (pcs (ps.drop told)) from Hdr.out)
  clear g2 p2 Hf1 Hfi Hk1 Hrl Hdr
  generalize w1.drewN nq = w2 at *
  have g2 := Hf2.out.c2
  have p2 := Hfi2.out.c2
  go_wp2_with fail
  have key : ∃ A2, (Ad = none ∧ A2 = none ∧ ps.length = 0 ∧ capd = 0 ∧ told = 0) ∨ (∃ a, Ad = some a ∧ ((capd = told ∧ A2 = some a) ∨ (capd ≠ told ∧ A2 = some (a.add (told * 2))))) := by
    cases Ad with
    | none => obtain ⟨h1, h2⟩ := hnd rfl; exact ⟨none, Or.inl ⟨rfl, rfl, h1, h2, by omega⟩⟩
    | some a =>
      by_cases h : capd = told
      · exact ⟨some a, Or.inr ⟨a, rfl, Or.inl ⟨h, rfl⟩⟩⟩
      · exact ⟨some (a.add (told * 2)), Or.inr ⟨a, rfl, Or.inr ⟨h, rfl⟩⟩⟩
  clear hnd
  obtain ⟨A2, hc⟩ := key
  rcases hc with ⟨rfl, rfl, h1, h2, h3⟩ | ⟨a, rfl, (⟨h1, rfl⟩ | ⟨h1, rfl⟩)⟩
  · obtain rfl : ps = [] := List.eq_nil_of_length_eq_zero h1
    subst h2 h3
    clear h1
    go_big_quiet (first | (go_at_call 29; exact Calls.quiet_of (sameP_eq Al none 0 capl 0 Bl Bd [] _ rfl (by omega) (by omega) hcl2 (by unfold maxLen; omega) (Rd.nil _ _ _) (Rd.nil _ _ _))))
    have Hf3 := Lib.hid (show FeIs (w2.drewN nq) gf sv fv 0 false from Hf2.out); have Hfi3 := Lib.hid (show FiIs (w2.drewN nq) w.heap.size N sd (.slice none 0 0) L E from Hfi2.out); have Hk3 := Lib.hid (show Keep [gf] w (w2.drewN nq) from ⟨Hk2.out.os, Hk2.out.tape, Hk2.out.output, Hk2.out.size, Hk2.out.block⟩)
    clear g2 p2 Hf2 Hfi2 Hk2
    generalize w2.drewN nq = w3 at *
    have p2 := Hfi3.out.c2
    have g3 := Hf3.out.c3; have z2 := Hf3.out.f 2; have z3 := Hf3.out.f 3; have g2 := Hf3.out.c2
    by_cases he : e = 0
    · subst he
      go_wp2_with fail
      go_ret
      have hk := Hk3.out.trans ((Keep.set w3 2 (.int .i64 0) (g := gf)).trans (Keep.set _ 3 (.bool false)))
      refine ⟨by simp, ?_, ?_⟩
      · have := (Hf3.out.s2 0).s3 false
        simpa using this
      · simpa using hk
    · have hne : (e != 0) = true := by simpa using he
      have Hne := Lib.hid hne
      clear he
      go_wp2_with fail
      go_ret
      have hk := Hk3.out.trans ((Keep.set w3 2 (.int .i64 0) (g := gf)).trans (Keep.set _ 3 (.bool true)))
      refine ⟨by simp, ?_, ?_⟩
      · have := (Hf3.out.s2 0).s3 true
        simpa [Hne.out] using this
      · simpa using hk
  · have Hdr3 := Lib.hid (show Rd w2 Bd (some a) (pcs (ps.drop told)) by have := Hdr2.out; rwa [if_pos h1] at this)
    have hpl : ps.length = told := by omega
    have hdn : ps.drop told = [] := List.drop_eq_nil_of_le (by omega)
    have Hpl := Lib.hid hpl
    rw [hpl] at i1 i2 p2 tt hcd ⊢
    clear hpl hdn
    go_big_quiet (first | (go_at_call 29; exact Calls.quiet_of (sameP_eq Al (some a) 0 capl 0 Bl Bd [] _ rfl (by omega) (by omega) hcl2 (by unfold maxLen; omega) (Rd.nil _ _ _) (Rd.nil _ _ _))))
    have Hf3 := Lib.hid (show FeIs (w2.drewN nq) gf sv fv told false from Hf2.out); have Hfi3 := Lib.hid (show FiIs (w2.drewN nq) w.heap.size N sd (.slice (some a) told capd) L E by have := Hfi2.out; rw [Hpl.out] at this; exact this); have Hk3 := Lib.hid (show Keep [gf] w (w2.drewN nq) from ⟨Hk2.out.os, Hk2.out.tape, Hk2.out.output, Hk2.out.size, Hk2.out.block⟩)
    generalize hw3 : w2.drewN nq = w3 at *
    have p3 := Hfi3.out.c2
    have g3 := Hf3.out.c3; have z2 := Hf3.out.f 2; have z3 := Hf3.out.f 3; have g4 := Hf3.out.c2
    clear hw3
    by_cases he : e = 0
    · subst he
      go_wp2_with fail
      go_ret
      have hk := Hk3.out.trans ((Keep.set w3 2 (.int .i64 (told : Int)) (g := gf)).trans (Keep.set _ 3 (.bool false)))
      refine ⟨by simp, ?_, ?_⟩
      · have := (Hf3.out.s2 (told : Int)).s3 false
        rw [Hpl.out]
        simpa using this
      · simpa using hk
    · have hne : (e != 0) = true := by simpa using he
      have Hne := Lib.hid hne
      clear he
      go_wp2_with fail
      go_ret
      have hk := Hk3.out.trans ((Keep.set w3 2 (.int .i64 (told : Int)) (g := gf)).trans (Keep.set _ 3 (.bool true)))
      refine ⟨by simp, ?_, ?_⟩
      · have := (Hf3.out.s2 (told : Int)).s3 true
        rw [Hpl.out]
        simpa [Hne.out] using this
      · simpa using hk
  · have Hdr3 := Lib.hid (show Rd w2 Bd (some (a.add (told * 2))) (pcs (ps.drop told)) by have := Hdr2.out; rwa [if_neg h1] at this)
    go_big_quiet (first | (go_at_call 29; exact Calls.quiet_of (sameP_eq Al (some (a.add (told * 2))) (ps.length - told) capl (capd - told) Bl Bd (ps.drop told) _ Hdl.out hcl (by omega) hcl2 (by unfold maxLen; omega) Hrl2.out Hdr3.out)))
    have Hf3 := Lib.hid (show FeIs (w2.drewN nq) gf sv fv told false from Hf2.out); have Hfi3 := Lib.hid (show FiIs (w2.drewN nq) w.heap.size N sd (.slice (some a) ps.length capd) L E from Hfi2.out); have Hk3 := Lib.hid (show Keep [gf] w (w2.drewN nq) from ⟨Hk2.out.os, Hk2.out.tape, Hk2.out.output, Hk2.out.size, Hk2.out.block⟩)
    clear g2 p2 Hf2 Hfi2 Hk2
    generalize w2.drewN nq = w3 at *
    have p2 := Hfi3.out.c2
    have g3 := Hf3.out.c3; have z2 := Hf3.out.f 2; have z3 := Hf3.out.f 3; have g2 := Hf3.out.c2
    by_cases he : e = 0
    · subst he
      go_wp2_with fail
      go_ret
      have hk := Hk3.out.trans ((Keep.set w3 2 (.int .i64 (ps.length : Int)) (g := gf)).trans (Keep.set _ 3 (.bool false)))
      refine ⟨by simp, ?_, ?_⟩
      · have := (Hf3.out.s2 (ps.length : Int)).s3 false
        simpa using this
      · simpa using hk
    · have hne : (e != 0) = true := by simpa using he
      have Hne := Lib.hid hne
      clear he
      go_wp2_with fail
      go_ret
      have hk := Hk3.out.trans ((Keep.set w3 2 (.int .i64 (ps.length : Int)) (g := gf)).trans (Keep.set _ 3 (.bool true)))
      refine ⟨by simp, ?_, ?_⟩
      · have := (Hf3.out.s2 (ps.length : Int)).s3 true
        simpa [Hne.out] using this
      · simpa using hk
set_option maxHeartbeats 1000000 in
set_option maxRecDepth 20000 in
theorem stands_calls (gf gs : Nat) (fv : Value) (told : Int) (ended : Bool) (rv : Value) (L F n : Int) (b ee : Bool) (N : Int) (sd : Bool) (pv : Value) (E : Int) (w : World)
    (hf : FeIs w gf (.pointer (some ⟨gs, 0, none⟩)) fv told ended) (hs : EdIs w gs rv L F n b ee) (hn : n = if sd then N else 0) :
    Calls Tryd.prog 48 #[.pointer (some ⟨gf, 0, none⟩), VFi N sd pv F E] w fun en w' => en = .returned (.bool true) ∧ Below w.heap.size w w' := by
  have hb1 : Below w.heap.size w (w.alloc (.cells #[.int .i64 N, .bool sd, pv, .int .i64 F, .int .i64 E] 88)) := (Below.refl _ _).alloc (Nat.le_refl _) _
  have hf1 := hf.below hb1 hf.lt; have hs1 := hs.below hb1 hs.lt
  have hfi : FiIs (w.alloc (.cells #[.int .i64 N, .bool sd, pv, .int .i64 F, .int .i64 E] 88)) w.heap.size N sd pv F E := heap_alloc_new _ _
  have Hb1 := Lib.hid hb1; have Hf1 := Lib.hid hf1; have Hs1 := Lib.hid hs1; have Hfi := Lib.hid hfi
  clear hf hs hb1 hf1 hs1 hfi
  go_enter Tryd.func48, Tryd.ntmps48
  cases sd with
  | true =>
    simp only [if_true] at hn
    subst hn
    go_wp2_with fail
    have hb1 := Hb1.out
    have g0 := Hf1.out.c0
    have g3 := Hfi.out.c3
    have Hbz := Lib.hid hb1
    clear hb1
    go_big_quiet (first | (go_at_call 42; exact Calls.quiet_of_same (N_calls gs rv _ _ _ _ _ _ Hs1.out)) | (go_at_call 41; exact Calls.quiet_of_same (Line_calls gs rv _ _ _ _ _ _ Hs1.out)))
    go_wp2_with fail
    go_ret
    exact ⟨by simp, below_drewN Hbz.out nq⟩
  | false =>
    simp only [Bool.false_eq_true, if_false] at hn
    subst hn
    go_wp2_with fail
    have hb1 := Hb1.out
    have g0 := Hf1.out.c0
    have g3 := Hfi.out.c3
    have Hbz := Lib.hid hb1
    clear hb1
    go_big_quiet (first | (go_at_call 42; exact Calls.quiet_of_same (N_calls gs rv _ _ _ _ _ _ Hs1.out)) | (go_at_call 41; exact Calls.quiet_of_same (Line_calls gs rv _ _ _ _ _ _ Hs1.out)))
    go_wp2_with fail
    go_ret
    exact ⟨by simp, below_drewN Hbz.out nq⟩
end Go.Proofs.YtgoobadkbndfgaaDoor
