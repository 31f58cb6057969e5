/- an ended scanner; End; NewEdges, N, Line -/
import Derived.Test.YtmeoafodcniliaaGreatDoorTxF
namespace Go.Proofs.YtmeoafodcniliaaGreatDoor.C4
open Go.RowKit
set_option linter.unusedSimpArgs false
set_option linter.unusedVariables false
namespace Tx
/-- The line that no newline ends. -/
def lasts (t : List By) : List (List By) := if t = [] then [] else [t]
/-- What is told at the end. -/
def Run.eEnd (R : Run) : Int := if R.e ≠ 0 then R.e else if R.begun then 0 else 40
def Run.pEnd (R : Run) : List (Int × Int) := if R.eEnd = 0 then R.pairs else []
def Run.fEnd (R : Run) (L fault : Int) : Int := if R.e ≠ 0 then L + R.k else fault
theorem run_cons (n : Int) (b : Bool) (l : List By) (ls : List (List By)) : run n b (l :: ls) = if (scan n b (words l)).e ≠ 0 then ⟨[], (scan n b (words l)).e, 1, (scan n b (words l)).n, (scan n b (words l)).begun⟩ else ⟨(if (scan n b (words l)).says then [((scan n b (words l)).u, (scan n b (words l)).v)] else []) ++ (run (scan n b (words l)).n (scan n b (words l)).begun ls).pairs, (run (scan n b (words l)).n (scan n b (words l)).begun ls).e, (run (scan n b (words l)).n (scan n b (words l)).begun ls).k + 1, (run (scan n b (words l)).n (scan n b (words l)).begun ls).n, (run (scan n b (words l)).n (scan n b (words l)).begun ls).begun⟩ := rfl
theorem run_append (n : Int) (b : Bool) (xs ys : List (List By)) : run n b (xs ++ ys) = if (run n b xs).e ≠ 0 then run n b xs else
    ⟨(run n b xs).pairs ++ (run (run n b xs).n (run n b xs).begun ys).pairs, (run (run n b xs).n (run n b xs).begun ys).e, (run n b xs).k + (run (run n b xs).n (run n b xs).begun ys).k, (run (run n b xs).n (run n b xs).begun ys).n, (run (run n b xs).n (run n b xs).begun ys).begun⟩ := by
  induction xs generalizing n b with
  | nil => simp [run]
  | cons l ls ih =>
    rw [List.cons_append, run_cons, run_cons]
    by_cases h : (scan n b (words l)).e ≠ 0
    · rw [if_pos h, if_pos h, if_pos h]
    · rw [if_neg h, if_neg h, ih]
      dsimp only
      by_cases h2 : (run (scan n b (words l)).n (scan n b (words l)).begun ls).e ≠ 0
      · rw [if_pos h2, if_pos h2]
      · rw [if_neg h2, if_neg h2]
        simp only [List.append_assoc]
        congr 1
        omega
theorem run_lasts_nil (n : Int) (b : Bool) : run n b (lasts []) = ⟨[], 0, 0, n, b⟩ := rfl
theorem run_lasts (n : Int) (b : Bool) (t : List By) (h : t ≠ []) : run n b (lasts t) = if (scan n b (words t)).e ≠ 0 then ⟨[], (scan n b (words t)).e, 1, (scan n b (words t)).n, (scan n b (words t)).begun⟩ else ⟨if (scan n b (words t)).says then [((scan n b (words t)).u, (scan n b (words t)).v)] else [], 0, 1, (scan n b (words t)).n, (scan n b (words t)).begun⟩ := by
  unfold lasts
  rw [if_neg h]
  simp [run]
end Tx
set_option maxHeartbeats 2000000 in
theorem Feed_ended (g : Nat) (rv : Value) (L fault N : Int) (b : Bool) (c : Value) (w : World) (hs : EdIs w g rv L fault N b true) :
    Calls Tryz.prog 15 #[.pointer (some ⟨g, 0, none⟩), c] w fun en w' => en = .returned (.tuple #[.slice none 0 0, .int .i64 43]) ∧ w' = w := by
  have c5 := hs.c5
  clear hs
  go_enter Tryz.func15, Tryz.ntmps15
  go_wp2_with fail
  go_ret2
  exact ⟨rfl, rfl⟩
set_option maxHeartbeats 2000000 in
theorem End_ended (g : Nat) (rv : Value) (L fault N : Int) (b : Bool) (w : World) (hs : EdIs w g rv L fault N b true) :
    Calls Tryz.prog 22 #[.pointer (some ⟨g, 0, none⟩)] w fun en w' => en = .returned (.tuple #[.slice none 0 0, .int .i64 43]) ∧ w' = w := by
  have c5 := hs.c5
  clear hs
  go_enter Tryz.func22, Tryz.ntmps22
  go_wp2_with fail
  go_ret2
  exact ⟨rfl, rfl⟩
theorem N_calls (g : Nat) (rv : Value) (L fault N : Int) (b e : Bool) (w : World) (hs : EdIs w g rv L fault N b e) :
    Calls Tryz.prog 63 #[.pointer (some ⟨g, 0, none⟩)] w fun en w' => en = .returned (.int .i64 N) ∧ w' = w := by
  have c3 := hs.c3
  clear hs
  go_enter Tryz.func63, Tryz.ntmps63
  go_wp2_with fail
  go_ret
  exact ⟨rfl, rfl⟩
theorem Line_calls (g : Nat) (rv : Value) (L fault N : Int) (b e : Bool) (w : World) (hs : EdIs w g rv L fault N b e) :
    Calls Tryz.prog 62 #[.pointer (some ⟨g, 0, none⟩)] w fun en w' => en = .returned (.int .i64 fault) ∧ w' = w := by
  have c2 := hs.c2
  clear hs
  go_enter Tryz.func62, Tryz.ntmps62
  go_wp2_with fail
  go_ret
  exact ⟨rfl, rfl⟩
theorem NewEdges_calls (w : World) :
    Calls Tryz.prog 9 #[] w fun en w' => en = .returned (.pointer (some ⟨w.heap.size, 0, none⟩)) ∧ w' = w.alloc (.cells #[.slice none 0 0, .int .i64 0, .int .i64 0, .int .i64 0, .bool false, .bool false] 132) := by
  go_enter Tryz.func9, Tryz.ntmps9
  go_wp2_with fail
  go_ret
  exact ⟨rfl, rfl⟩
/-- What End answers, and what it leaves. -/
def EndSaid (g : Nat) (r0 : List (BitVec 8)) (L fault N : Int) (b : Bool) (w : World) (en : Ending) (w' : World) : Prop :=
      ∃ Al capl rv, en = .returned (.tuple #[.slice Al (Tx.run N b (Tx.lasts r0)).pEnd.length capl, .int .i64 (Tx.run N b (Tx.lasts r0)).eEnd]) ∧
        w'.ownsRow w.heap.size 127 2 (.slice Al (Tx.run N b (Tx.lasts r0)).pEnd.length capl) (Tx.run N b (Tx.lasts r0)).pEnd.length (pcs (Tx.run N b (Tx.lasts r0)).pEnd) ∧
        Keep [g] w w' ∧ EdIs w' g rv (L + (Tx.run N b (Tx.lasts r0)).k) ((Tx.run N b (Tx.lasts r0)).fEnd L fault) (Tx.run N b (Tx.lasts r0)).n (Tx.run N b (Tx.lasts r0)).begun true
set_option maxHeartbeats 8000000 in
set_option maxRecDepth 20000 in
theorem End_calls (g : Nat) (A0 : Option Addr) (n0 cap0 B : Nat) (r0 : List (BitVec 8)) (L fault N : Int) (b : Bool) (w : World)
    (hs : EdIs w g (.slice A0 n0 cap0) L fault N b false) (hg0 : ∀ a, A0 = some a → a.block ≠ g) (hnil : A0 = none → n0 = 0 ∧ cap0 = 0) (hcap : n0 ≤ cap0)
    (hn : n0 = r0.length) (hm : n0 ≤ 549755813888) (hB : B ≤ w.heap.size) (hr : Rd w B A0 (r0.map V8)) (hl0 : 0 ≤ L) (hl1 : L ≤ 549755813888) :
    Calls Tryz.prog 22 #[.pointer (some ⟨g, 0, none⟩)] w (EndSaid g r0 L fault N b w) := by
  have hgl := hs.lt
  have c5 := hs.c5; have f5 := hs.f 5
  have hs1 := hs.s5 true
  have hk1 : Keep [g] w (w.setCell ⟨g, 5, none⟩ (.bool true)) := Keep.set w 5 _
  have hr1 : Rd (w.setCell ⟨g, 5, none⟩ (.bool true)) B A0 (r0.map V8) := rd_keep hr hB hk1 (fun a ha => by simp; exact hg0 a ha)
  have hsz1 : (w.setCell ⟨g, 5, none⟩ (.bool true)).heap.size = w.heap.size := by simp [World.setCell]
  have d0 := hs1.c0; have d4 := hs1.c4
  have Hs1 := Lib.hid hs1; have Hk1 := Lib.hid hk1; have Hr1 := Lib.hid hr1; have Hn := Lib.hid hn; have Hnil := Lib.hid hnil
  clear hs hs1 hk1 hr1 hn hnil hr
  go_enter Tryz.func22, Tryz.ntmps22
  by_cases h0 : n0 = 0
  · have hr0 : r0 = [] := List.eq_nil_of_length_eq_zero (by rw [← Hn.out]; exact h0)
    have HR := Lib.hid (show Tx.run N b (Tx.lasts r0) = ⟨[], 0, 0, N, b⟩ by rw [hr0]; rfl)
    clear hr0
    subst h0
    cases b with
    | true =>
      go_wp2_with fail
      go_ret2
      unfold EndSaid
      rw [HR.out]
      exact ⟨none, 0, _, rfl, World.ownsRow_nil _ _ _ _, Hk1.out, by simpa [Tx.Run.fEnd] using Hs1.out⟩
    | false =>
      go_wp2_with fail
      go_ret2
      unfold EndSaid
      rw [HR.out]
      exact ⟨none, 0, _, rfl, World.ownsRow_nil _ _ _ _, Hk1.out, by simpa [Tx.Run.fEnd] using Hs1.out⟩
  · have hpos : 0 < n0 := by omega
    have hne : r0 ≠ [] := by intro h; have := Hn.out; rw [h] at this; simp at this; omega
    have Hsc := Lib.hid (scan_calls g A0 n0 cap0 B r0 (.slice A0 n0 cap0) L fault N b true _ Hn.out (by omega) hcap Hnil.out (by rw [hsz1]; exact hB) Hr1.out hg0 hl0 (by omega) Hs1.out)
    have HR := Lib.hid (Tx.run_lasts N b r0 hne)
    generalize Tx.scan N b (Tx.words r0) = S at *
    obtain ⟨su, sv, says, se, sn, sb⟩ := S
    dsimp only at Hsc HR
    clear hne h0
    go_wp2_with fail
    refine (Hsc.out).mono ?_
    rintro en w2 ⟨rfl, hs2, hk2⟩
    have hk02 := Hk1.out.trans hk2
    have hsz2 := hk2.size
    have Hs2 := Lib.hid hs2; have Hk2 := Lib.hid hk02
    clear hs2 hk2 hk02 Hsc d0 d4 Hs1
    have hb3 : Below w2.heap.size w2 (w2.alloc (.cells #[.int .i64 su, .int .i64 sv] 127)) := (Below.refl _ _).alloc (Nat.le_refl _) _
    have hs3 := Hs2.out.below hb3 Hs2.out.lt
    have hg2 := Hs2.out.lt
    have Hk3 := Lib.hid (Hk2.out.trans (Keep.of_below (ks := [g]) hb3))
    by_cases he : se = 0
    · subst he
      have e4 := hs3.c4
      have Hs3 := Lib.hid hs3
      clear hs3 hb3
      have HR1 := Lib.hid (HR.out.trans (if_neg (by simp)))
      cases says with
      | false =>
        cases sb with
        | true =>
          go_wp2_with fail
          go_ret2
          unfold EndSaid
          rw [HR1.out]
          exact ⟨none, 0, _, rfl, World.ownsRow_nil _ _ _ _, Hk3.out, by simpa [Tx.Run.fEnd] using Hs3.out⟩
        | false =>
          go_wp2_with fail
          go_ret2
          unfold EndSaid
          rw [HR1.out]
          exact ⟨none, 0, _, rfl, World.ownsRow_nil _ _ _ _, Hk3.out, by simpa [Tx.Run.fEnd] using Hs3.out⟩
      | true =>
        have hb8 : Below w2.heap.size w2 ((w2.alloc (.cells #[.int .i64 su, .int .i64 sv] 127)).alloc (.cells #[.int .i64 su, .int .i64 sv] 127)) := ((Below.refl _ _).alloc (Nat.le_refl _) _).alloc (by simp) _
        have hs8 := Hs2.out.below hb8 hg2
        have hk8 := Hk2.out.trans (Keep.of_below (ks := [g]) hb8)
        have hnew : ((w2.alloc (.cells #[.int .i64 su, .int .i64 sv] 127)).alloc (.cells #[.int .i64 su, .int .i64 sv] 127)).heap[w2.heap.size + 1]? = some (.cells #[.int .i64 su, .int .i64 sv] 127 (0, 0)) := by
          have := heap_alloc_new (w2.alloc (.cells #[.int .i64 su, .int .i64 sv] 127)) (.cells #[.int .i64 su, .int .i64 sv] 127)
          simpa using this
        have Hc8 := Lib.hid (show ∀ (j : Nat) (u : Value), [Value.int .i64 su, .int .i64 sv][j]? = some u → ((w2.alloc (.cells #[.int .i64 su, .int .i64 sv] 127)).alloc (.cells #[.int .i64 su, .int .i64 sv] 127)).cell? ((⟨w2.heap.size + 1, 0, none⟩ : Addr).add j) = some u from fun j u hu => by
          rw [Addr.add_lit, Nat.zero_add, cell_heap hnew]; simpa using hu)
        have Hone := Lib.hid (show ∀ u ∈ ([.int .i64 su, .int .i64 sv] : List Value), u.oneCell' = true by intro u hu; simp at hu; rcases hu with rfl | rfl <;> rfl)
        have Hsb := Lib.hid (show w.heap.size ≤ ((w2.alloc (.cells #[.int .i64 su, .int .i64 sv] 127)).alloc (.cells #[.int .i64 su, .int .i64 sv] 127)).heap.size by simp; omega)
        have Hs8 := Lib.hid hs8; have Hk8 := Lib.hid hk8
        obtain ⟨i0, hi0, hz0, hz1, hz2⟩ := info_parts infoPa
        have Hi := Lib.hid hi0
        have Hl8 := Lib.hid (World.ownsRow_nil ((w2.alloc (.cells #[.int .i64 su, .int .i64 sv] 127)).alloc (.cells #[.int .i64 su, .int .i64 sv] 127)) w.heap.size 127 2)
        clear hb8 hs8 hk8 hnew hi0 e4
        have halt : ∀ sb', sb = sb' → True := fun _ _ => trivial
        clear halt
        cases sb with
        | true =>
          go_wp2_with (at_builtin; refine wpList_append_own _ rfl _ _ 23 rfl w.heap.size 127 i0 _ 2 16 descPas Hi.out hz0 hz1 hz2 rfl (by decide) _ 0 [] rfl Hl8.out ⟨w2.heap.size + 1, 0, none⟩ 1 1 [.int .i64 su, .int .i64 sv] rfl rfl Hc8.out Hone.out (by unfold maxLen; omega) (by omega) Hsb.out ?_; intro v9 w9 hown9 hg9 _; obtain ⟨A9, cap9, rfl⟩ := own_size hown9; have Hkg := Lib.hid (show Keep ((Value.slice none 0 0).ownBlock.toList) _ w9 from Keep.grown hg9); have hs9 := Hs8.out.keep Hkg.out (by simp [Value.ownBlock]); have e4 := hs9.c4; have Hs9 := Lib.hid hs9; have Hown9 := Lib.hid hown9; clear hs9 hown9 hg9)
          go_ret2
          unfold EndSaid
          rw [HR1.out]
          exact ⟨_, _, _, rfl, Hown9.out, keep_over Hk8.out Hkg.out (by simp [Value.ownBlock]), Hs9.out⟩
        | false =>
          go_wp2_with (at_builtin; refine wpList_append_own _ rfl _ _ 23 rfl w.heap.size 127 i0 _ 2 16 descPas Hi.out hz0 hz1 hz2 rfl (by decide) _ 0 [] rfl Hl8.out ⟨w2.heap.size + 1, 0, none⟩ 1 1 [.int .i64 su, .int .i64 sv] rfl rfl Hc8.out Hone.out (by unfold maxLen; omega) (by omega) Hsb.out ?_; intro v9 w9 hown9 hg9 _; obtain ⟨A9, cap9, rfl⟩ := own_size hown9; have Hkg := Lib.hid (show Keep ((Value.slice none 0 0).ownBlock.toList) _ w9 from Keep.grown hg9); have hs9 := Hs8.out.keep Hkg.out (by simp [Value.ownBlock]); have e4 := hs9.c4; have Hs9 := Lib.hid hs9; have Hown9 := Lib.hid hown9; clear hs9 hown9 hg9)
          go_ret2
          unfold EndSaid
          rw [HR1.out]
          exact ⟨none, 0, _, rfl, World.ownsRow_nil _ _ _ _, keep_over Hk8.out Hkg.out (by simp [Value.ownBlock]), Hs9.out⟩
    · have hne : (se != 0) = true := by simp; exact he
      have HR1 := Lib.hid (HR.out.trans (if_pos he))
      have He := Lib.hid he
      have d1 := hs3.c1; have d2 := Hs2.out.c2; have f2 := Hs2.out.f 2
      have Hs4 := Lib.hid ((Hs2.out.s2 (L + 1)).below ((Below.refl _ _).alloc (Nat.le_refl _) (.cells #[.int .i64 su, .int .i64 sv] 127)) (by simp [World.setCell]; exact hg2))
      have Hk4 := Lib.hid ((Hk2.out.trans (Keep.set w2 2 (.int .i64 (L + 1)) (g := g))).trans (Keep.of_below (ks := [g]) ((Below.refl _ _).alloc (Nat.le_refl _) (.cells #[.int .i64 su, .int .i64 sv] 127))))
      clear he hs3 hb3
      go_wp2_with fail
      go_ret2
      unfold EndSaid
      rw [HR1.out]
      have e1 : Tx.Run.eEnd ⟨[], se, 1, sn, sb⟩ = se := by unfold Tx.Run.eEnd; rw [if_pos He.out]
      have e2 : Tx.Run.pEnd ⟨[], se, 1, sn, sb⟩ = [] := by unfold Tx.Run.pEnd; split <;> rfl
      have e3 : Tx.Run.fEnd ⟨[], se, 1, sn, sb⟩ L fault = L + 1 := by unfold Tx.Run.fEnd; rw [if_pos He.out]; rfl
      rw [e1, e2, e3]
      exact ⟨none, 0, _, rfl, World.ownsRow_nil _ _ _ _, Hk4.out, Hs4.out⟩
end Go.Proofs.YtmeoafodcniliaaGreatDoor.C4
