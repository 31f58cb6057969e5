/- pithlaw4.first -/
import Derived.Test.YtmeoafodcniliaaGreatDoorTxQ
namespace Go.Proofs.YtmeoafodcniliaaGreatDoor.C4
open Go.RowKit
set_option linter.unusedSimpArgs false
set_option linter.unusedVariables false
theorem num_calls (e : Int) (w : World) : Calls Tryz.prog 16 #[.int .i64 e] w fun en w' => en = .returned (.int .i64 e) ∧ w = w' := by
  go_enter Tryz.func16, Tryz.ntmps16
  go_wp2_with fail
  go_ret
  exact ⟨rfl, rfl⟩
theorem rd_new (w : World) (vs : List Value) (c : Array Value) (t : TypeId) (hc : c = vs.toArray) : Rd (w.alloc (.cells c t)) (w.heap.size + 1) (some ⟨w.heap.size, 0, none⟩) vs := by
  subst hc
  intro k v hv
  refine ⟨w.heap.size, 0, rfl, by omega, ?_⟩
  rw [Nat.zero_add, World.cell?_alloc_new]
  simpa using hv
/-- A conversion between slices of bytes marks the row. -/
theorem conv_mark (w : World) (C : Array Value) (g n cap : Nat) (hg : w.heap.size = g) : (convert 22 22 (.slice (some ⟨g, 0, none⟩) n cap)).run Tryz.prog (w.alloc (.cells C 5)) = .ok (.slice (some ⟨g, 0, none⟩) n cap) (w.alloc (.cells C 5 (C.size, C.size + 1))) := by
  subst hg
  have hsh : (w.alloc (.cells C 5)).shape? w.heap.size = some (5, C.size) := by
    have : (w.alloc (.cells C 5)).heap[w.heap.size]? = some (.cells C 5) := by
      show (w.heap.push (.cells C 5))[w.heap.size]? = _
      simp
    unfold World.shape?
    rw [this]
  have hfr : (w.alloc (.cells C 5)).freeze ⟨w.heap.size, C.size, none⟩ 1 = w.alloc (.cells C 5 (C.size, C.size + 1)) := by
    have hm : ∀ (a : Array Obj) (x : Obj) (f : Obj → Obj), (a.push x).modify a.size f = a.push (f x) := by
      intro a x f
      apply Array.ext
      · simp
      · intro i h1 h2
        simp only [Array.getElem_modify, Array.getElem_push]
        by_cases h : a.size = i
        · subst h
          simp
        · have hi : i < a.size := by simp at h1; omega
          simp [h, hi]
    unfold World.freeze
    rw [if_neg (by decide)]
    show ({ w.alloc (.cells C 5) with heap := (w.heap.push (.cells C 5)).modify w.heap.size _ } : World) = _
    rw [hm]
    rfl
  simp [convert, run_underlying descU8s, run_underlying descU8, markStringish, hsh]
  exact hfr
theorem rd_mark (w : World) (vs : List Value) (C : Array Value) (t : TypeId) (fr : Nat × Nat) (g : Nat) (hg : w.heap.size = g) (hc : C = vs.toArray) : Rd (w.alloc (.cells C t fr)) (g + 1) (some ⟨g, 0, none⟩) vs := by
  subst hc hg
  intro k v hv
  refine ⟨w.heap.size, 0, rfl, by omega, ?_⟩
  rw [Nat.zero_add, World.cell?_alloc_mark]
  simpa using hv
def vs1 : Array Value := #[.int .u8 118, .int .u8 101, .int .u8 114, .int .u8 116, .int .u8 105, .int .u8 99, .int .u8 101, .int .u8 115, .int .u8 32, .int .u8 51, .int .u8 10, .int .u8 48, .int .u8 32, .int .u8 49, .int .u8 10, .int .u8 50, .int .u8 32, .int .u8 49, .int .u8 10]
def vs2 : Array Value := #[.int .u8 43, .int .u8 32, .int .u8 48, .int .u8 32, .int .u8 49, .int .u8 10, .int .u8 45, .int .u8 32, .int .u8 49, .int .u8 32, .int .u8 50, .int .u8 10]
def vs3 : Array Value := #[.int .u8 118, .int .u8 101, .int .u8 114, .int .u8 116, .int .u8 105, .int .u8 99, .int .u8 101, .int .u8 115, .int .u8 32, .int .u8 50, .int .u8 10, .int .u8 48, .int .u8 32, .int .u8 49, .int .u8 10, .int .u8 48, .int .u8 32, .int .u8 50, .int .u8 10, .int .u8 49, .int .u8 32, .int .u8 48, .int .u8 10]
def bs1 : List (BitVec 8) := [118#8, 101#8, 114#8, 116#8, 105#8, 99#8, 101#8, 115#8, 32#8, 51#8, 10#8, 48#8, 32#8, 49#8, 10#8, 50#8, 32#8, 49#8, 10#8]
def bs2 : List (BitVec 8) := [43#8, 32#8, 48#8, 32#8, 49#8, 10#8, 45#8, 32#8, 49#8, 32#8, 50#8, 10#8]
def bs3 : List (BitVec 8) := [118#8, 101#8, 114#8, 116#8, 105#8, 99#8, 101#8, 115#8, 32#8, 50#8, 10#8, 48#8, 32#8, 49#8, 10#8, 48#8, 32#8, 50#8, 10#8, 49#8, 32#8, 48#8, 10#8]
theorem all1 : (Tx.all bs1).eEnd = 0 ∧ (Tx.all bs1).n = 3 ∧ (Tx.all bs1).pEnd = [(0, 1), (2, 1)] ∧ (Tx.all bs1).fEnd 0 0 = 0 := by
  refine ⟨by kernel_rfl, by kernel_rfl, by kernel_rfl, by kernel_rfl⟩
theorem ch2 : (Tx.chRun 3 (Tx.pieces bs2)).out = [⟨0, 1, false, 0⟩, ⟨1, 2, true, 0⟩] ∧ (Tx.chRun 3 (Tx.pieces bs2)).line = 0 ∧ (Tx.chRun 3 (Tx.pieces bs2)).e = 0 := by
  refine ⟨by kernel_rfl, by kernel_rfl, by kernel_rfl⟩
theorem all3 : Tx.run 0 false (Tx.whole bs3) = ⟨[(0, 1)], 42, 3, 2, true⟩ := by kernel_rfl
theorem sameP_eq (A A' : Option Addr) (n cap cap' B B' : Nat) (ps : List (Int × Int)) (w : World) (hn : n = ps.length) (hc : n ≤ cap) (hc' : n ≤ cap') (hcm : cap ≤ maxLen) (hcm' : cap' ≤ maxLen) (hr : Rd w B A (pcs ps)) (hr' : Rd w B' A' (pcs ps)) :
    Calls Tryz.prog 23 #[.slice A n cap, .slice A' n cap'] w fun e w' => e = .returned (.bool true) ∧ ∃ k, w' = w.drewN k := by
  have h := sameP_calls A A' n cap n cap' B B' ps ps w hn hn hc hc' hcm hcm' hr hr'
  rwa [decide_eq_true (rfl : ps = ps)] at h
theorem sameC_eq (A A' : Option Addr) (n cap cap' B B' : Nat) (ps : List Tx.Ch) (w : World) (hn : n = ps.length) (hc : n ≤ cap) (hc' : n ≤ cap') (hcm : cap ≤ maxLen) (hcm' : cap' ≤ maxLen) (hr : Rd w B A (chs ps)) (hr' : Rd w B' A' (chs ps)) :
    Calls Tryz.prog 61 #[.slice A n cap, .slice A' n cap'] w fun e w' => e = .returned (.bool true) ∧ ∃ k, w' = w.drewN k := by
  have h := sameC_calls A A' n cap n cap' B B' ps ps w hn hn hc hc' hcm hcm' hr hr'
  rwa [decide_eq_true (rfl : ps.map Tx.Ch.tr = ps.map Tx.Ch.tr)] at h
theorem parse1 (g B : Nat) (w : World) (hB : B ≤ w.heap.size) (hr : Rd w B (some ⟨g, 0, none⟩) (bs1.map V8)) :
    Calls Tryz.prog 12 #[.slice (some ⟨g, 0, none⟩) 19 19] w fun en w' => ∃ Al capl, en = .returned (.tuple #[.int .i64 3, .slice Al 2 capl, .int .i64 0, .int .i64 0]) ∧ w'.ownsRow w.heap.size 127 2 (.slice Al 2 capl) 2 (pcs [(0, 1), (2, 1)]) ∧ Below w.heap.size w w' := by
  have h := Parse_calls (some ⟨g, 0, none⟩) 19 19 B bs1 w rfl (by omega) (by omega) (by intro h; cases h) hB hr
  unfold ParseSaid at h
  rw [all1.2.2.1, all1.2.2.2, all1.1, all1.2.1] at h
  exact h
theorem changes2 (g B : Nat) (w : World) (hB : B ≤ w.heap.size) (hr : Rd w B (some ⟨g, 0, none⟩) (bs2.map V8)) :
    Calls Tryz.prog 13 #[.slice (some ⟨g, 0, none⟩) 12 12, .int .i64 3] w fun en w' => ∃ Al capl, en = .returned (.tuple #[.slice Al 2 capl, .int .i64 0, .int .i64 0]) ∧ w'.ownsRow w.heap.size 130 3 (.slice Al 2 capl) 2 (chs [⟨0, 1, false, 0⟩, ⟨1, 2, true, 0⟩]) ∧ Below w.heap.size w w' := by
  have h := Changes_calls (some ⟨g, 0, none⟩) 12 12 B bs2 3 w rfl (by omega) (by omega) (by unfold maxLen; omega) (by intro h; cases h) hB hr
  unfold ChangesSaid at h
  rw [ch2.1, ch2.2.1, ch2.2.2] at h
  exact h
theorem feed3 (g g2 B : Nat) (w : World) (hs : EdIs w g (.slice none 0 0) 0 0 0 false false) (hB : B ≤ w.heap.size) (hr : Rd w B (some ⟨g2, 0, none⟩) (bs3.map V8)) :
    Calls Tryz.prog 15 #[.pointer (some ⟨g, 0, none⟩), .slice (some ⟨g2, 0, none⟩) 23 23] w fun en w' => ∃ Al capl, en = .returned (.tuple #[.slice Al 1 capl, .int .i64 42]) ∧ w'.ownsRow w.heap.size 127 2 (.slice Al 1 capl) 1 (pcs [(0, 1)]) ∧ Keep [g] w w' ∧ ∃ rv, EdIs w' g rv 3 3 2 true true := by
  have h := Feed_calls g none 0 0 w.heap.size [] 0 0 0 false (some ⟨g2, 0, none⟩) 23 23 B bs3 w hs (World.ownsRow_nil _ _ _ _) (by intro a h; cases h) (Nat.le_refl _) rfl (by omega) (by omega) (by intro h; cases h) hB hr (by omega) (by omega) (by omega)
  rw [List.nil_append, all3] at h
  refine h.mono ?_
  rintro en w' ⟨Al, capl, rfl, h1, h2, h3⟩
  refine ⟨Al, capl, rfl, h1, h2, ?_⟩
  rcases h3 with ⟨h3, _⟩ | ⟨_, rv, h3⟩
  · exact absurd h3 (by decide)
  · exact ⟨rv, h3⟩
set_option maxHeartbeats 8000000 in
set_option maxRecDepth 40000 in
theorem first_calls (w : World) : Calls Tryz.prog 8 #[] w fun e w' => e = .returned (.bool true) ∧ Below w.heap.size w w' := by
  go_enter Tryz.func8, Tryz.ntmps8
  go_wp2_with fail
  refine (NewEdges_calls w).mono ?_
  rintro en w1 ⟨rfl, rfl⟩
  have hb1 : Below w.heap.size w (w.alloc (.cells #[.slice none 0 0, .int .i64 0, .int .i64 0, .int .i64 0, .bool false, .bool false] 132)) := (Below.refl _ _).alloc (Nat.le_refl _) _
  have hs1 : EdIs (w.alloc (.cells #[.slice none 0 0, .int .i64 0, .int .i64 0, .int .i64 0, .bool false, .bool false] 132)) w.heap.size (.slice none 0 0) 0 0 0 false false := heap_alloc_new _ _
  have hz1 : (w.alloc (.cells #[.slice none 0 0, .int .i64 0, .int .i64 0, .int .i64 0, .bool false, .bool false] 132)).heap.size = w.heap.size + 1 := by simp
  generalize w.alloc (.cells #[.slice none 0 0, .int .i64 0, .int .i64 0, .int .i64 0, .bool false, .bool false] 132) = w1 at *
  have Hb1 := Lib.hid hb1; have Hs1 := Lib.hid hs1
  clear hb1 hs1
  have hcv := conv_mark w1 vs1 (w.heap.size + 1) 19 19 hz1
  unfold vs1 at hcv
  have hb2 : Below w.heap.size w1 (w1.alloc (.cells vs1 5 (vs1.size, vs1.size + 1))) := (Below.refl _ _).alloc (by omega) _
  have hr2 := rd_mark w1 (bs1.map V8) vs1 5 (vs1.size, vs1.size + 1) (w.heap.size + 1) hz1 (by kernel_rfl)
  have hs2 := Hs1.out.below (B := w.heap.size + 1) (w' := w1.alloc (.cells vs1 5 (vs1.size, vs1.size + 1))) ((Below.refl _ _).alloc (by omega) _) (by omega)
  have hz2 : (w1.alloc (.cells vs1 5 (vs1.size, vs1.size + 1))).heap.size = w.heap.size + 2 := by simp; omega
  have Hb2 := Lib.hid (Hb1.out.trans hb2); have Hr2 := Lib.hid hr2; have Hs2 := Lib.hid hs2; have Hz2 := Lib.hid hz2
  clear hb2 hr2 hs2 hz2 Hb1 Hs1
  go_wp2_with fail
  refine (parse1 (w.heap.size + 1) (w.heap.size + 1 + 1) (w1.alloc (.cells vs1 5 (vs1.size, vs1.size + 1))) (by rw [Hz2.out]; omega) Hr2.out).mono ?_
  rintro en w3 ⟨Al, capl, rfl, hown3, hb3⟩
  rw [Hz2.out] at hown3 hb3
  have hs3 := Hs2.out.below hb3 (by omega)
  have hz3 := hb3.size
  rw [Hz2.out] at hz3
  have hb03 := Hb2.out.trans (hb3.mono (by omega))
  have Hs3 := Lib.hid hs3; have Hb3 := Lib.hid hb03
  have hcap3 := own_cap_s hown3
  have hr3 := own_rd_s hown3
  have hbn : Below w3.heap.size w3 (w3.alloc (.cells #[.int .i64 0, .int .i64 1, .int .i64 2, .int .i64 1] 127)) := (Below.refl _ _).alloc (Nat.le_refl _) _
  have Hsp := Lib.hid (sameP_eq Al (some ⟨w3.heap.size, 0, none⟩) 2 capl 2 w3.heap.size (w3.heap.size + 1) [(0, 1), (2, 1)] (w3.alloc (.cells #[.int .i64 0, .int .i64 1, .int .i64 2, .int .i64 1] 127)) rfl hcap3.1 (Nat.le_refl _) hcap3.2 (by unfold maxLen; omega) (hr3.below hbn (Nat.le_refl _)) (rd_new w3 _ _ _ rfl))
  have Hbn := Lib.hid hbn
  clear hown3 hb3 hs3 hb03 hcap3 hr3 hbn Hs2 Hb2 Hr2 hcv
  go_wp2_with fail
  refine (Hsp.out).mono ?_
  rintro en w4 ⟨rfl, q, rfl⟩
  have hs4 := Hs3.out.below (below_drewN Hbn.out q) (by omega)
  have hb4 := Hb3.out.trans ((below_drewN Hbn.out q).mono (by omega))
  have hz4 : ((w3.alloc (.cells #[.int .i64 0, .int .i64 1, .int .i64 2, .int .i64 1] 127)).drewN q).heap.size ≥ w3.heap.size + 1 := by show (w3.alloc _).heap.size ≥ _; simp
  generalize (w3.alloc (.cells #[.int .i64 0, .int .i64 1, .int .i64 2, .int .i64 1] 127)).drewN q = w4 at *
  have Hs4 := Lib.hid hs4; have Hb4 := Lib.hid hb4
  clear hs4 hb4 Hs3 Hb3 Hbn Hsp
  have hcv := conv_mark w4 vs2 w4.heap.size 12 12 rfl
  unfold vs2 at hcv
  have hb5 : Below w4.heap.size w4 (w4.alloc (.cells vs2 5 (vs2.size, vs2.size + 1))) := (Below.refl _ _).alloc (Nat.le_refl _) _
  have Hr5 := Lib.hid (rd_mark w4 (bs2.map V8) vs2 5 (vs2.size, vs2.size + 1) w4.heap.size rfl (by kernel_rfl))
  have Hs5 := Lib.hid (Hs4.out.below hb5 (by omega))
  have Hb5 := Lib.hid (Hb4.out.trans (hb5.mono (by omega)))
  have Hz5 := Lib.hid (show (w4.alloc (.cells vs2 5 (vs2.size, vs2.size + 1))).heap.size = w4.heap.size + 1 by simp)
  clear hb5 Hs4 Hb4
  go_wp2_with fail
  refine (changes2 w4.heap.size (w4.heap.size + 1) (w4.alloc (.cells vs2 5 (vs2.size, vs2.size + 1))) (by rw [Hz5.out]; omega) Hr5.out).mono ?_
  rintro en w6 ⟨Al6, capl6, rfl, hown6, hb6⟩
  rw [Hz5.out] at hown6 hb6
  have hz6 := hb6.size
  rw [Hz5.out] at hz6
  have Hs6 := Lib.hid (Hs5.out.below hb6 (by omega))
  have Hb6 := Lib.hid (Hb5.out.trans (hb6.mono (by omega)))
  have hcap6 := own_cap_s hown6
  have hr6 := own_rd_s hown6
  have hbn : Below w6.heap.size w6 (w6.alloc (.cells #[.int .i64 0, .int .i64 1, .bool false, .int .i64 1, .int .i64 2, .bool true] 130)) := (Below.refl _ _).alloc (Nat.le_refl _) _
  have Hsc := Lib.hid (sameC_eq Al6 (some ⟨w6.heap.size, 0, none⟩) 2 capl6 2 w6.heap.size (w6.heap.size + 1) [⟨0, 1, false, 0⟩, ⟨1, 2, true, 0⟩] (w6.alloc (.cells #[.int .i64 0, .int .i64 1, .bool false, .int .i64 1, .int .i64 2, .bool true] 130)) rfl hcap6.1 (Nat.le_refl _) hcap6.2 (by unfold maxLen; omega) (hr6.below hbn (Nat.le_refl _)) (rd_new w6 _ _ _ rfl))
  have Hbn := Lib.hid hbn
  clear hown6 hb6 hcap6 hr6 hbn Hs5 Hb5 Hr5 hcv
  go_wp2_with fail
  refine (Hsc.out).mono ?_
  rintro en w7 ⟨rfl, q, rfl⟩
  have hs7 := Hs6.out.below (below_drewN Hbn.out q) (by omega)
  have hb7 := Hb6.out.trans ((below_drewN Hbn.out q).mono (by omega))
  have hz7 : ((w6.alloc (.cells #[.int .i64 0, .int .i64 1, .bool false, .int .i64 1, .int .i64 2, .bool true] 130)).drewN q).heap.size ≥ w6.heap.size + 1 := by show (w6.alloc _).heap.size ≥ _; simp
  generalize (w6.alloc (.cells #[.int .i64 0, .int .i64 1, .bool false, .int .i64 1, .int .i64 2, .bool true] 130)).drewN q = w7 at *
  have Hs7 := Lib.hid hs7; have Hb7 := Lib.hid hb7
  clear hs7 hb7 Hs6 Hb6 Hbn Hsc
  have hcv := conv_mark w7 vs3 w7.heap.size 23 23 rfl
  unfold vs3 at hcv
  have hb8 : Below w7.heap.size w7 (w7.alloc (.cells vs3 5 (vs3.size, vs3.size + 1))) := (Below.refl _ _).alloc (Nat.le_refl _) _
  have Hr8 := Lib.hid (rd_mark w7 (bs3.map V8) vs3 5 (vs3.size, vs3.size + 1) w7.heap.size rfl (by kernel_rfl))
  have Hs8 := Lib.hid (Hs7.out.below hb8 (by omega))
  have Hb8 := Lib.hid (Hb7.out.trans (hb8.mono (by omega)))
  have Hz8 := Lib.hid (show (w7.alloc (.cells vs3 5 (vs3.size, vs3.size + 1))).heap.size = w7.heap.size + 1 by simp)
  clear hb8 Hs7 Hb7
  go_wp2_with fail
  refine (feed3 w.heap.size w7.heap.size (w7.heap.size + 1) (w7.alloc (.cells vs3 5 (vs3.size, vs3.size + 1))) Hs8.out (by rw [Hz8.out]; omega) Hr8.out).mono ?_
  rintro en w9 ⟨Al9, capl9, rfl, hown9, hk9, rv, hs9⟩
  rw [Hz8.out] at hown9
  have hz9 := hk9.size
  rw [Hz8.out] at hz9
  have Hb9 := Lib.hid (Hb8.out.trans (hk9.below (by rw [Hz8.out]; omega) (by simp)))
  have hcap9 := own_cap_s hown9
  have hr9 := own_rd_s hown9
  have hbn : Below w9.heap.size w9 (w9.alloc (.cells #[.int .i64 0, .int .i64 1] 127)) := (Below.refl _ _).alloc (Nat.le_refl _) _
  have Hsp := Lib.hid (sameP_eq Al9 (some ⟨w9.heap.size, 0, none⟩) 1 capl9 1 w9.heap.size (w9.heap.size + 1) [(0, 1)] (w9.alloc (.cells #[.int .i64 0, .int .i64 1] 127)) rfl hcap9.1 (Nat.le_refl _) hcap9.2 (by unfold maxLen; omega) (hr9.below hbn (Nat.le_refl _)) (rd_new w9 _ _ _ rfl))
  have Hbn := Lib.hid hbn
  have Hs9 := Lib.hid hs9
  clear hown9 hk9 hs9 hcap9 hr9 hbn Hs8 Hb8 Hr8 hcv
  go_wp2_with fail
  refine (Hsp.out).mono ?_
  rintro en wA ⟨rfl, q, rfl⟩
  have hsA := Hs9.out.below (below_drewN Hbn.out q) (by omega)
  have hbA := Hb9.out.trans ((below_drewN Hbn.out q).mono (by omega))
  generalize (w9.alloc (.cells #[.int .i64 0, .int .i64 1] 127)).drewN q = wA at *
  have HsA := Lib.hid hsA; have HbA := Lib.hid hbA
  clear hsA hbA Hs9 Hb9 Hbn Hsp
  go_wp2_with fail
  refine (End_ended w.heap.size rv 3 3 2 true wA HsA.out).mono ?_
  rintro en wB ⟨rfl, rfl⟩
  go_wp2_with (first | (go_at_call 16; refine (num_calls _ _).mono ?_; rintro en wC ⟨rfl, rfl⟩) | (go_at_call 62; refine (Line_calls w.heap.size rv 3 3 2 true true _ HsA.out).mono ?_; rintro en wC ⟨rfl, rfl⟩) | (go_at_call 63; refine (N_calls w.heap.size rv 3 3 2 true true _ HsA.out).mono ?_; rintro en wC ⟨rfl, rfl⟩))
  go_ret
  exact ⟨rfl, HbA.out⟩
end Go.Proofs.YtmeoafodcniliaaGreatDoor.C4
