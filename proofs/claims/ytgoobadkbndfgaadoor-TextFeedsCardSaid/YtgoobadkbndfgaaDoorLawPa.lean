/- room, parses, changes; TextParses, TextChanges -/
import Derived.Test.YtgoobadkbndfgaaDoorRfE
import Derived.Test.YtgoobadkbndfgaaDoorLawPrC
import Derived.Test.YtgoobadkbndfgaaDoorLift
namespace Go.Proofs.YtgoobadkbndfgaaDoor
open Go.RowKit Go.ChangeShapes Go.WideShapes Go.ChangeAt
set_option linter.unusedSimpArgs false
set_option linter.unusedVariables false
attribute [local go_sem] u8_signed n8_xor
def rm3 : List (BitVec 8) := [120#8, 10#8, 55#8]
set_option maxHeartbeats 1000000 in
theorem room_calls (A : Option Addr) (n cap B : Nat) (bs : List (BitVec 8)) (w : World) (hn : n = bs.length) (hm : n ≤ 100000000) (hnil : A = none → n = 0 ∧ cap = 0) (hB : B ≤ w.heap.size) (hr : Rd w B A (bs.map V8)) :
    Calls Tryd.prog 24 #[.slice A n cap] w fun e w' => ∃ g cap', e = .returned (.slice (some ⟨g, 0, none⟩) (n + 3) cap') ∧ n + 3 ≤ cap' ∧ cap' ≤ maxLen ∧ w.heap.size ≤ g ∧ w'.ownsRow w.heap.size 5 1 (.slice (some ⟨g, 0, none⟩) (n + 3) cap') (n + 3) ((bs ++ rm3).map V8) ∧ Below w.heap.size w w' := by
  obtain ⟨i8, h8, h80, h81, h82⟩ := info_parts infoU8
  have H8 := Lib.hid h8
  have Hb := Lib.hid (bytes_calls A n cap B bs w hn (by omega) hnil hB hr)
  clear hn hnil hr h8
  go_enter Tryd.func24, Tryd.ntmps24
  go_wp2_with fail
  refine (Hb.out).mono ?_
  rintro e w1 ⟨A1, cap1, rfl, hown1, hb1⟩
  have hz1 := hb1.size
  have hb2 : Below w1.heap.size w1 (w1.alloc (.cells #[.int .u8 120, .int .u8 10, .int .u8 55] 5)) := (Below.refl _ _).alloc (Nat.le_refl _) _
  have Hown2 := Lib.hid (own_below hown1 hb2 (Nat.le_refl _))
  have Hb2 := Lib.hid (hb1.trans (hb2.mono hz1))
  have Hrd := Lib.hid (rd_new w1 (rm3.map V8) #[.int .u8 120, .int .u8 10, .int .u8 55] 5 rfl)
  have hsb : w.heap.size ≤ (w1.alloc (.cells #[.int .u8 120, .int .u8 10, .int .u8 55] 5)).heap.size := by simp; omega
  clear hown1 hb1 hb2
  go_wp2_with (at_builtin; refine wpList_append_rd rfl _ _ 27 rfl w.heap.size 5 i8 _ 1 descU8s H8.out h80 h81 h82 rfl _ n (bs.map V8) rfl Hown2.out _ (some ⟨w1.heap.size, 0, none⟩) 3 3 (rm3.map V8) rfl rfl (by intro h; cases h) Hrd.out (v8_one rm3) (by unfold maxLen; omega) (by omega) hsb ?_; intro v9 w9 hown9 hg9; have Hown9 := Lib.hid hown9; have Hg9 := Lib.hid hg9; clear hown9 hg9)
  go_ret
  have ho := Hown9.out
  rw [← List.map_append] at ho
  obtain ⟨A9, cap9, rfl, hc1, hc2, _⟩ := own_form ho
  obtain ⟨g, rfl, hg⟩ : ∃ g, A9 = some ⟨g, 0, none⟩ ∧ w.heap.size ≤ g := by
    rcases ho.2 with ⟨h, _⟩ | ⟨g, cap', cur, h, hb, _⟩
    · injection h with _ h _; omega
    · injection h with h1 h2 h3; exact ⟨g, h1, hb⟩
  exact ⟨g, cap9, rfl, hc1, hc2, hg, ho, Hb2.out.grown Hg9.out hsb fun x hx => (Hown2.out.lt x hx).1⟩
set_option maxHeartbeats 4000000 in
set_option maxRecDepth 20000 in
theorem parses_calls (A : Option Addr) (n cap B : Nat) (A' : Option Addr) (n' cap' B' : Nat) (bs : List (BitVec 8)) (w : World) (hn : n = bs.length) (hm : n ≤ 100000000) (hcap : n ≤ cap) (hcm : cap ≤ maxLen) (hnil : A = none → n = 0 ∧ cap = 0) (hB : B ≤ w.heap.size) (hr : Rd w B A (bs.map V8))
    (hn' : n' = bs.length) (hcap' : n' ≤ cap') (hcm' : cap' ≤ maxLen) (hnil' : A' = none → n' = 0 ∧ cap' = 0) (hB' : B' ≤ w.heap.size) (hr' : Rd w B' A' (bs.map V8)) :
    Calls Tryd.prog 25 #[.slice A n cap, .slice A' n' cap'] w fun e w' => e = .returned (.bool true) ∧ Below w.heap.size w w' := by
  unfold maxLen at hcm hcm'
  have Hp1 := Lib.hid (Parse_calls A n cap B bs w hn (by omega) hcap hnil hB hr)
  have Hp2 := Lib.hid (fun w1 (hb : Below w.heap.size w w1) => ParseR_calls A' n' cap' B' bs w1 hn' (by omega) hcap' hcm' hnil' (Nat.le_trans hB' hb.size) (hr'.below hb hB'))
  unfold ParseSaid at Hp1 Hp2
  generalize (Tx.all bs).pEnd = PE at *
  generalize (Tx.all bs).fEnd 0 0 = F at *
  obtain ⟨M, hM⟩ : ∃ M, M = (if (Tx.all bs).eEnd = 0 then (Tx.all bs).n else 0) := ⟨_, rfl⟩
  rw [← hM] at Hp1 Hp2
  generalize (Tx.all bs).eEnd = E at *
  clear hn hnil hr hn' hnil' hr' hM
  go_enter Tryd.func25, Tryd.ntmps25
  go_wp2_with fail
  refine (Hp1.out).mono ?_
  rintro en w1 ⟨Al, capl, rfl, hown1, hb1⟩
  have hz1 := hb1.size
  have Hown1 := Lib.hid hown1; have Hb1 := Lib.hid hb1
  clear hown1 hb1
  go_wp2_with fail
  refine (Hp2.out w1 Hb1.out).mono ?_
  rintro en w2 ⟨Al2, capl2, rfl, hown2, hb2⟩
  have Hb2 := Lib.hid (Hb1.out.trans (hb2.mono hz1))
  have hc1 := own_cap_s Hown1.out; have hc2 := own_cap_s hown2
  have Hsp := Lib.hid (sameP_eq Al Al2 PE.length capl capl2 _ _ PE w2 rfl hc1.1 hc2.1 hc1.2 hc2.2 ((own_rd_s Hown1.out).below hb2 (Nat.le_refl _)) (own_rd_s hown2))
  clear hown2 hb2 Hp1 Hp2
  go_wp2_with fail
  refine (Hsp.out).mono ?_
  rintro en w3 ⟨rfl, q, rfl⟩
  have Hb3 := Lib.hid (below_drewN Hb2.out q)
  generalize w2.drewN q = w3 at *
  go_wp2_with (go_at_call 19; refine (num_calls _ _).mono ?_; rintro en w9 ⟨rfl, rfl⟩)
  go_ret
  exact ⟨by simp, Hb3.out⟩
set_option maxHeartbeats 4000000 in
set_option maxRecDepth 20000 in
theorem lchanges_calls (A : Option Addr) (n cap B : Nat) (A' : Option Addr) (n' cap' B' : Nat) (bs : List (BitVec 8)) (x : Int) (w : World) (hn : n = bs.length) (hm : n ≤ 100000000) (hcap : n ≤ cap) (hcm : cap ≤ maxLen) (hnil : A = none → n = 0 ∧ cap = 0) (hB : B ≤ w.heap.size) (hr : Rd w B A (bs.map V8))
    (hn' : n' = bs.length) (hcap' : n' ≤ cap') (hcm' : cap' ≤ maxLen) (hnil' : A' = none → n' = 0 ∧ cap' = 0) (hB' : B' ≤ w.heap.size) (hr' : Rd w B' A' (bs.map V8)) :
    Calls Tryd.prog 27 #[.slice A n cap, .slice A' n' cap', .int .i64 x] w fun e w' => e = .returned (.bool true) ∧ Below w.heap.size w w' := by
  have Hp1 := Lib.hid (Changes_calls A n cap B bs x w hn (by omega) hcap hcm hnil hB hr)
  have Hp2 := Lib.hid (fun w1 (hb : Below w.heap.size w w1) => ChangesR_calls A' n' cap' B' bs x w1 hn' (by omega) hcap' hcm' hnil' (Nat.le_trans hB' hb.size) (hr'.below hb hB'))
  unfold ChangesSaid at Hp1 Hp2
  generalize (Tx.chRun x (Tx.pieces bs)).out = PE at *
  generalize (Tx.chRun x (Tx.pieces bs)).line = F at *
  generalize (Tx.chRun x (Tx.pieces bs)).e = E at *
  clear hn hnil hr hn' hnil' hr'
  go_enter Tryd.func27, Tryd.ntmps27
  go_wp2_with fail
  refine (Hp1.out).mono ?_
  rintro en w1 ⟨Al, capl, rfl, hown1, hb1⟩
  have hz1 := hb1.size
  have Hown1 := Lib.hid hown1; have Hb1 := Lib.hid hb1
  clear hown1 hb1
  go_wp2_with fail
  refine (Hp2.out w1 Hb1.out).mono ?_
  rintro en w2 ⟨Al2, capl2, rfl, hown2, hb2⟩
  have Hb2 := Lib.hid (Hb1.out.trans (hb2.mono hz1))
  have hc1 := own_cap_s Hown1.out; have hc2 := own_cap_s hown2
  have Hsp := Lib.hid (sameC_eq Al Al2 PE.length capl capl2 _ _ PE w2 rfl hc1.1 hc2.1 hc1.2 hc2.2 ((own_rd_s Hown1.out).below hb2 (Nat.le_refl _)) (own_rd_s hown2))
  clear hown2 hb2 Hp1 Hp2
  go_wp2_with fail
  refine (Hsp.out).mono ?_
  rintro en w3 ⟨rfl, q, rfl⟩
  have Hb3 := Lib.hid (below_drewN Hb2.out q)
  generalize w2.drewN q = w3 at *
  go_wp2_with (go_at_call 19; refine (num_calls _ _).mono ?_; rintro en w9 ⟨rfl, rfl⟩)
  go_ret
  exact ⟨by simp, Hb3.out⟩
theorem into_list (a : Int) (n : Nat) (hn : 0 < n) : ∃ j : Nat, j < n ∧ (a.tmod n + n) % n = (j : Int) ∧ -(n : Int) < a.tmod n ∧ a.tmod n < (n : Int) := by
  have h0 : (0 : Int) < n := by omega
  have h1 := Int.emod_nonneg (a.tmod n + n) (show (n : Int) ≠ 0 by omega)
  have h2 := Int.emod_lt_of_pos (a.tmod n + n) h0
  refine ⟨((a.tmod n + n) % n).toNat, by omega, by omega, ?_, Int.tmod_lt_of_pos _ h0⟩
  have := Int.lt_tmod_of_pos a h0
  omega
set_option maxHeartbeats 4000000 in
set_option maxRecDepth 20000 in
theorem law_parses (A : Option Addr) (n cap : Nat) (bs : List (BitVec 8)) (at_ : Int) (x : BitVec 8) (w : World) (hn : n = bs.length) (hcap : n ≤ cap) (hcm : cap ≤ maxLen) (hnil : A = none → n = 0 ∧ cap = 0) (hr : Rd w w.heap.size A (bs.map V8)) (ha1 : -9223372036854775808 ≤ at_) (ha2 : at_ ≤ 9223372036854775807) :
    Calls Tryd.prog 5 #[.slice A n cap, .int .i64 at_, .int .u8 (n8 x)] w fun e w' => e = .returned (.bool true) ∧ Below w.heap.size w w' := by
  have Hn := Lib.hid hn; have Hnil := Lib.hid hnil; have Hr := Lib.hid hr; have Hc := Lib.hid hcm
  unfold maxLen at hcm
  clear hn hnil hr
  go_enter Tryd.func5, Tryd.ntmps5
  go_wp2_with fail
  refine (first_calls w).mono ?_
  rintro en w1 ⟨rfl, hb1⟩
  have hz1 := hb1.size
  have Hb1 := Lib.hid hb1
  clear hb1
  by_cases hbig : 65536 < n
  · have t2 : (65536 : Int) < (n : Int) := by omega
    go_wp2_with fail
    go_ret
    exact ⟨rfl, Hb1.out⟩
  · have t2 : ¬ (65536 : Int) < (n : Int) := by omega
    go_wp2_with fail
    refine (room_calls A n cap w.heap.size bs w1 Hn.out (by omega) Hnil.out hz1 (Hr.out.below Hb1.out (Nat.le_refl _))).mono ?_
    rintro en w2 ⟨g, cap2, rfl, hc2, hcm2, hg2, hown2, hb2⟩
    have hz2 := hb2.size
    have Hb2 := Lib.hid (Hb1.out.trans (hb2.mono hz1))
    have hx2 := own_rd hown2
    have Hx2 := Lib.hid (show Rd w2 w2.heap.size (some ⟨g, 0, none⟩) (bs.map V8) from fun k v hv => hx2 k v (by
      rw [List.map_append, List.getElem?_append_left (List.getElem?_eq_some_iff.1 hv).1]; exact hv))
    have Hown2 := Lib.hid hown2
    have Hpa := Lib.hid (parses_calls (some ⟨g, 0, none⟩) n (n + 3) w2.heap.size A n cap w.heap.size bs w2 Hn.out (by omega) (by omega) (by unfold maxLen; omega) (by intro h; cases h) (Nat.le_refl _) Hx2.out Hn.out hcap Hc.out Hnil.out Hb2.out.size (Hr.out.below Hb2.out (Nat.le_refl _)))
    clear hown2 hb2 hx2
    go_wp2_with fail
    refine (Hpa.out).mono ?_
    rintro en w3 ⟨rfl, hb3⟩
    have hz3 := hb3.size
    have Hb3 := Lib.hid (Hb2.out.trans (hb3.mono Hb2.out.size))
    have Hown3 := Lib.hid (own_below Hown2.out hb3 (Nat.le_refl _))
    clear hb3 Hpa Hown2 Hx2
    go_wp2_with fail
    refine (room_calls A n cap w.heap.size bs w3 Hn.out (by omega) Hnil.out Hb3.out.size (Hr.out.below Hb3.out (Nat.le_refl _))).mono ?_
    rintro en w4 ⟨g4, cap4, rfl, hc4, hcm4, hg4, hown4, hb4⟩
    have hz4 := hb4.size
    have Hb4 := Lib.hid (Hb3.out.trans (hb4.mono Hb3.out.size))
    have Hown34 := Lib.hid (own_below Hown3.out hb4 (Nat.le_refl _))
    have Hsb := Lib.hid (sameB_eq (some ⟨g, 0, none⟩) (some ⟨g4, 0, none⟩) (n + 3) cap2 cap4 _ _ (bs ++ rm3) w4 (by rw [List.length_append, ← Hn.out]; rfl) (by intro h; cases h) (by intro h; cases h) (own_rd Hown34.out) (own_rd hown4))
    clear hown4 hb4 Hown3
    go_wp2_with fail
    refine (Hsb.out).mono ?_
    rintro en w5 ⟨rfl, rfl⟩
    clear Hsb
    by_cases h0 : n = 0
    · have q0 : ((n : Int) == 0) = true := by simp; exact h0
      clear h0
      go_wp2_with fail
      go_ret
      exact ⟨rfl, Hb4.out⟩
    · have q0 : ((n : Int) == 0) = false := by simp; exact h0
      have hp : (0 : Int) < (n : Int) := by omega
      obtain ⟨j, hj, hj1, ht1, ht2⟩ := into_list at_ n (by omega)
      have hj' : (j : Int) < (n : Int) := by omega
      have hjl : j < bs.length := by have := Hn.out; omega
      obtain ⟨y, hy⟩ : ∃ y, y = bs[j] := ⟨_, rfl⟩
      have hcell : w4.cell? ⟨g, j, none⟩ = some (V8 y) := by
        obtain ⟨b, off, e, _, h⟩ := own_rd Hown34.out j (V8 y) (by rw [List.map_append, List.getElem?_append_left (by simpa using hjl), List.getElem?_map, List.getElem?_eq_getElem hjl, hy]; rfl)
        injection e with e; injection e with e1 e2; subst e1 e2; rw [Nat.zero_add] at h; exact h
      have hfz : w4.frozen? ⟨g, j, none⟩ = false := Hown34.out.frozenAt j
      have hj3 : (j : Int) < (n : Int) + 3 := by omega
      clear hy h0
      go_wp2_with fail
      have hst := (Hown34.out.stored j (V8 (y ^^^ x))).1
      have hb5 : Below w.heap.size w4 (w4.setCell ⟨g, j, none⟩ (V8 (y ^^^ x))) := (Below.refl _ _).setCell (show w.heap.size ≤ g by omega) _
      have hsz5 : (w4.setCell ⟨g, j, none⟩ (V8 (y ^^^ x))).heap.size = w4.heap.size := by simp [World.setCell]
      generalize w4.setCell ⟨g, j, none⟩ (V8 (y ^^^ x)) = w5 at *
      have Hx5 := Lib.hid (show Rd w5 w5.heap.size (some ⟨g, 0, none⟩) ((bs.set j (y ^^^ x)).map V8) from by
        have h3 := own_rd hst
        intro k v hv
        apply h3 k v
        rw [List.map_append, List.set_append_left _ _ (by simpa using hjl), ← List.map_set, List.getElem?_append_left (List.getElem?_eq_some_iff.1 hv).1]
        exact hv)
      have Hb5 := Lib.hid (Hb4.out.trans hb5)
      have Hn5 := Lib.hid (show n = (bs.set j (y ^^^ x)).length by rw [List.length_set]; exact Hn.out)
      generalize bs.set j (y ^^^ x) = cs at *
      clear hst hb5 hsz5 hcell hfz
      refine (bytes_calls (some ⟨g, 0, none⟩) n cap2 _ cs w5 Hn5.out (by omega) (by intro h; cases h) (Nat.le_refl _) Hx5.out).mono ?_
      rintro e w6 ⟨A6, cap6, rfl, hown6, hb6⟩
      have hz6 := hb6.size
      have Hr6 := Lib.hid (own_rd hown6); have Hx6 := Lib.hid (Hx5.out.below hb6 (Nat.le_refl _))
      have Hb6 := Lib.hid (Hb5.out.trans (hb6.mono Hb5.out.size))
      have Hn6 := Lib.hid (own_nil hown6)
      have hc6 := own_cap hown6
      have Hpb := Lib.hid (parses_calls (some ⟨g, 0, none⟩) n (n + 3) w5.heap.size A6 n cap6 w6.heap.size cs w6 Hn5.out (by omega) (by omega) (by unfold maxLen; omega) (by intro h; cases h) hz6 Hx6.out Hn5.out hc6.1 hc6.2 Hn6.out (Nat.le_refl _) Hr6.out)
      clear hown6 hb6
      go_wp2_with fail
      refine (Hpb.out).mono ?_
      rintro e w7 ⟨rfl, hb7⟩
      have Hb7 := Lib.hid (Hb6.out.trans (hb7.mono Hb6.out.size))
      clear hb7
      go_wp2_with fail
      go_ret
      exact ⟨rfl, Hb7.out⟩
set_option maxHeartbeats 4000000 in
set_option maxRecDepth 20000 in
theorem law_changes (A : Option Addr) (n cap : Nat) (bs : List (BitVec 8)) (m at_ : Int) (x : BitVec 8) (w : World) (hn : n = bs.length) (hcap : n ≤ cap) (hcm : cap ≤ maxLen) (hnil : A = none → n = 0 ∧ cap = 0) (hr : Rd w w.heap.size A (bs.map V8)) (ha1 : -9223372036854775808 ≤ at_) (ha2 : at_ ≤ 9223372036854775807) :
    Calls Tryd.prog 6 #[.slice A n cap, .int .i64 m, .int .i64 at_, .int .u8 (n8 x)] w fun e w' => e = .returned (.bool true) ∧ Below w.heap.size w w' := by
  have Hn := Lib.hid hn; have Hnil := Lib.hid hnil; have Hr := Lib.hid hr; have Hc := Lib.hid hcm
  unfold maxLen at hcm
  clear hn hnil hr
  go_enter Tryd.func6, Tryd.ntmps6
  go_wp2_with fail
  refine (first_calls w).mono ?_
  rintro en w1 ⟨rfl, hb1⟩
  have hz1 := hb1.size
  have Hb1 := Lib.hid hb1
  clear hb1
  by_cases hbig : 65536 < n
  · have t2 : (65536 : Int) < (n : Int) := by omega
    go_wp2_with fail
    go_ret
    exact ⟨rfl, Hb1.out⟩
  · have t2 : ¬ (65536 : Int) < (n : Int) := by omega
    go_wp2_with fail
    refine (room_calls A n cap w.heap.size bs w1 Hn.out (by omega) Hnil.out hz1 (Hr.out.below Hb1.out (Nat.le_refl _))).mono ?_
    rintro en w2 ⟨g, cap2, rfl, hc2, hcm2, hg2, hown2, hb2⟩
    have hz2 := hb2.size
    have Hb2 := Lib.hid (Hb1.out.trans (hb2.mono hz1))
    have hx2 := own_rd hown2
    have Hx2 := Lib.hid (show Rd w2 w2.heap.size (some ⟨g, 0, none⟩) (bs.map V8) from fun k v hv => hx2 k v (by
      rw [List.map_append, List.getElem?_append_left (List.getElem?_eq_some_iff.1 hv).1]; exact hv))
    have Hown2 := Lib.hid hown2
    have Hpa := Lib.hid (lchanges_calls (some ⟨g, 0, none⟩) n (n + 3) w2.heap.size A n cap w.heap.size bs m w2 Hn.out (by omega) (by omega) (by unfold maxLen; omega) (by intro h; cases h) (Nat.le_refl _) Hx2.out Hn.out hcap Hc.out Hnil.out Hb2.out.size (Hr.out.below Hb2.out (Nat.le_refl _)))
    clear hown2 hb2 hx2
    go_wp2_with fail
    refine (Hpa.out).mono ?_
    rintro en w3 ⟨rfl, hb3⟩
    have hz3 := hb3.size
    have Hb3 := Lib.hid (Hb2.out.trans (hb3.mono Hb2.out.size))
    have Hown3 := Lib.hid (own_below Hown2.out hb3 (Nat.le_refl _))
    clear hb3 Hpa Hown2 Hx2
    go_wp2_with fail
    refine (room_calls A n cap w.heap.size bs w3 Hn.out (by omega) Hnil.out Hb3.out.size (Hr.out.below Hb3.out (Nat.le_refl _))).mono ?_
    rintro en w4 ⟨g4, cap4, rfl, hc4, hcm4, hg4, hown4, hb4⟩
    have hz4 := hb4.size
    have Hb4 := Lib.hid (Hb3.out.trans (hb4.mono Hb3.out.size))
    have Hown34 := Lib.hid (own_below Hown3.out hb4 (Nat.le_refl _))
    have Hsb := Lib.hid (sameB_eq (some ⟨g, 0, none⟩) (some ⟨g4, 0, none⟩) (n + 3) cap2 cap4 _ _ (bs ++ rm3) w4 (by rw [List.length_append, ← Hn.out]; rfl) (by intro h; cases h) (by intro h; cases h) (own_rd Hown34.out) (own_rd hown4))
    clear hown4 hb4 Hown3
    go_wp2_with fail
    refine (Hsb.out).mono ?_
    rintro en w5 ⟨rfl, rfl⟩
    clear Hsb
    by_cases h0 : n = 0
    · have q0 : ((n : Int) == 0) = true := by simp; exact h0
      clear h0
      go_wp2_with fail
      go_ret
      exact ⟨rfl, Hb4.out⟩
    · have q0 : ((n : Int) == 0) = false := by simp; exact h0
      have hp : (0 : Int) < (n : Int) := by omega
      obtain ⟨j, hj, hj1, ht1, ht2⟩ := into_list at_ n (by omega)
      have hj' : (j : Int) < (n : Int) := by omega
      have hjl : j < bs.length := by have := Hn.out; omega
      obtain ⟨y, hy⟩ : ∃ y, y = bs[j] := ⟨_, rfl⟩
      have hcell : w4.cell? ⟨g, j, none⟩ = some (V8 y) := by
        obtain ⟨b, off, e, _, h⟩ := own_rd Hown34.out j (V8 y) (by rw [List.map_append, List.getElem?_append_left (by simpa using hjl), List.getElem?_map, List.getElem?_eq_getElem hjl, hy]; rfl)
        injection e with e; injection e with e1 e2; subst e1 e2; rw [Nat.zero_add] at h; exact h
      have hfz : w4.frozen? ⟨g, j, none⟩ = false := Hown34.out.frozenAt j
      have hj3 : (j : Int) < (n : Int) + 3 := by omega
      clear hy h0
      go_wp2_with fail
      have hst := (Hown34.out.stored j (V8 (y ^^^ x))).1
      have hb5 : Below w.heap.size w4 (w4.setCell ⟨g, j, none⟩ (V8 (y ^^^ x))) := (Below.refl _ _).setCell (show w.heap.size ≤ g by omega) _
      have hsz5 : (w4.setCell ⟨g, j, none⟩ (V8 (y ^^^ x))).heap.size = w4.heap.size := by simp [World.setCell]
      generalize w4.setCell ⟨g, j, none⟩ (V8 (y ^^^ x)) = w5 at *
      have Hx5 := Lib.hid (show Rd w5 w5.heap.size (some ⟨g, 0, none⟩) ((bs.set j (y ^^^ x)).map V8) from by
        have h3 := own_rd hst
        intro k v hv
        apply h3 k v
        rw [List.map_append, List.set_append_left _ _ (by simpa using hjl), ← List.map_set, List.getElem?_append_left (List.getElem?_eq_some_iff.1 hv).1]
        exact hv)
      have Hb5 := Lib.hid (Hb4.out.trans hb5)
      have Hn5 := Lib.hid (show n = (bs.set j (y ^^^ x)).length by rw [List.length_set]; exact Hn.out)
      generalize bs.set j (y ^^^ x) = cs at *
      clear hst hb5 hsz5 hcell hfz
      refine (bytes_calls (some ⟨g, 0, none⟩) n cap2 _ cs w5 Hn5.out (by omega) (by intro h; cases h) (Nat.le_refl _) Hx5.out).mono ?_
      rintro e w6 ⟨A6, cap6, rfl, hown6, hb6⟩
      have hz6 := hb6.size
      have Hr6 := Lib.hid (own_rd hown6); have Hx6 := Lib.hid (Hx5.out.below hb6 (Nat.le_refl _))
      have Hb6 := Lib.hid (Hb5.out.trans (hb6.mono Hb5.out.size))
      have Hn6 := Lib.hid (own_nil hown6)
      have hc6 := own_cap hown6
      have Hpb := Lib.hid (lchanges_calls (some ⟨g, 0, none⟩) n (n + 3) w5.heap.size A6 n cap6 w6.heap.size cs m w6 Hn5.out (by omega) (by omega) (by unfold maxLen; omega) (by intro h; cases h) hz6 Hx6.out Hn5.out hc6.1 hc6.2 Hn6.out (Nat.le_refl _) Hr6.out)
      clear hown6 hb6
      go_wp2_with fail
      refine (Hpb.out).mono ?_
      rintro e w7 ⟨rfl, hb7⟩
      have Hb7 := Lib.hid (Hb6.out.trans (hb7.mono Hb6.out.size))
      clear hb7
      go_wp2_with fail
      go_ret
      exact ⟨rfl, Hb7.out⟩
theorem parses_row (A : Option Addr) (n cap : Nat) (bs : List (BitVec 8)) (a x : Int) (w : World) (h : In8 w A n cap bs) (h1 : (Lit.int .i64 a).wf = true) (h2 : (Lit.int .u8 x).wf = true) (ht : True) :
    Calls Tryd.prog 5 #[.slice A n cap, .int .i64 a, .int .u8 x] w fun e w' => e = .returned (.bool true) ∧ Below w.heap.size w w' := by
  rw [int8 h2]
  exact law_parses A n cap bs a _ w h.1 h.2.1 h.2.2.1 h.2.2.2.1 h.2.2.2.2 (bounds_i64 h1).1 (bounds_i64 h1).2
theorem changes_row (A : Option Addr) (n cap : Nat) (bs : List (BitVec 8)) (m a x : Int) (w : World) (h : In8 w A n cap bs) (h0 : (Lit.int .i64 m).wf = true) (h1 : (Lit.int .i64 a).wf = true) (h2 : (Lit.int .u8 x).wf = true) (ht : True) :
    Calls Tryd.prog 6 #[.slice A n cap, .int .i64 m, .int .i64 a, .int .u8 x] w fun e w' => e = .returned (.bool true) ∧ Below w.heap.size w w' := by
  rw [int8 h2]
  exact law_changes A n cap bs m a _ w h.1 h.2.1 h.2.2.1 h.2.2.2.1 h.2.2.2.2 (bounds_i64 h1).1 (bounds_i64 h1).2
end Go.Proofs.YtgoobadkbndfgaaDoor
