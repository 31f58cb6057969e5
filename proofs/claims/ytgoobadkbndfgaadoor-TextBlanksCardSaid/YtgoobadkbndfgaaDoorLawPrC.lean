/- TextPrintsChanges -/
import Derived.Test.YtgoobadkbndfgaaDoorTxY
namespace Go.Proofs.YtgoobadkbndfgaaDoor
open Go.RowKit
set_option linter.unusedSimpArgs false
set_option linter.unusedVariables false
theorem sameB_eq (A A' : Option Addr) (n cap cap' B B' : Nat) (bs : List (BitVec 8)) (w : World) (hn : n = bs.length) (hnil : A = none → n = 0) (hnil' : A' = none → n = 0) (hr : Rd w B A (bs.map V8)) (hr' : Rd w B' A' (bs.map V8)) :
    Calls Tryd.prog 17 #[.slice A n cap, .slice A' n cap'] w fun e w' => e = .returned (.bool true) ∧ w = w' := by
  have h := same_calls A A' n cap n cap' B B' bs bs w hn hn hnil hnil' hr hr'
  rwa [decide_eq_true (rfl : bs = bs)] at h
theorem rd_left {w : World} {B : Nat} {A : Option Addr} {xs ys : List Value} (h : Rd w B A (xs ++ ys)) : Rd w B A xs := fun k v hv => h k v (by
  rw [List.getElem?_append_left (List.getElem?_eq_some_iff.1 hv).1]; exact hv)
theorem rd_right {w : World} {B : Nat} {A : Option Addr} {xs ys : List Value} (h : Rd w B A (xs ++ ys)) {k : Nat} {v : Value} (hv : ys[k]? = some v) : ∃ b off, A = some ⟨b, off, none⟩ ∧ b < B ∧ w.cell? ⟨b, off + (xs.length + k), none⟩ = some v :=
  h (xs.length + k) v (by rw [List.getElem?_append_right (by omega)]; simpa using hv)
theorem Pow.mono' {B B' : Nat} {w : World} (h : Pow B w) (hB : B ≤ B') : Pow B' w := fun w' hb => h w' (hb.mono hB)
set_option maxHeartbeats 8000000 in
set_option maxRecDepth 20000 in
theorem law_prc (A : Option Addr) (n cap : Nat) (ps : List Tx.Ch) (w : World) (hn : n = ps.length) (hcap : n ≤ cap) (hcm : cap ≤ maxLen) (hnil : A = none → n = 0 ∧ cap = 0) (hr : Rd w w.heap.size A (chs ps))
    (hps : ∀ p ∈ ps, (-9223372036854775808 ≤ p.u ∧ p.u ≤ 9223372036854775807) ∧ -9223372036854775808 ≤ p.v ∧ p.v ≤ 9223372036854775807) (ht : Pow w.heap.size w) :
    Calls Tryd.prog 3 #[.slice A n cap] w fun e w' => e = .returned (.bool true) ∧ Below w.heap.size w w' := by
  have Hn := Lib.hid hn; have Hnil := Lib.hid hnil; have Hr := Lib.hid hr; have Hps := Lib.hid hps; have Ht := Lib.hid ht; have Hcm := Lib.hid hcm
  unfold maxLen at hcm
  clear hn hnil hr hps ht
  go_enter Tryd.func3, Tryd.ntmps3
  go_wp2_with fail
  refine (first_calls w).mono ?_
  rintro en w1 ⟨rfl, hb1⟩
  have hz1 := hb1.size
  have Hb1 := Lib.hid hb1
  clear hb1
  by_cases hbig : 65536 < n
  · have t2 : (65536 : Int) < (n : Int) := by omega
    go_wp2_with fail
    go_ret
    exact ⟨rfl, Hb1.out⟩
  · have t2 : ¬ (65536 : Int) < (n : Int) := by omega
    have Hcc := Lib.hid (changes_calls A n cap w.heap.size ps w1 Hn.out (by omega) hz1 (Hr.out.below Hb1.out (Nat.le_refl _)))
    go_wp2_with fail
    refine (Hcc.out).mono ?_
    rintro en w2 ⟨A2, cap2, rfl, hown2, hb2⟩
    have hz2 := hb2.size
    have hb3 : Below w2.heap.size w2 (w2.alloc (.cells #[.int .i64 (-7), .int .i64 (-7), .bool false] 26)) := (Below.refl _ _).alloc (Nat.le_refl _) _
    have Hown3 := Lib.hid (own_below_s hown2 hb3 (Nat.le_refl _))
    have Hb3 := Lib.hid (Hb1.out.trans ((hb2.mono hz1).trans (hb3.mono (by omega))))
    have Hrd := Lib.hid (rd_new w2 [.int .i64 (-7), .int .i64 (-7), .bool false] #[.int .i64 (-7), .int .i64 (-7), .bool false] 26 rfl)
    have hsb : w1.heap.size ≤ (w2.alloc (.cells #[.int .i64 (-7), .int .i64 (-7), .bool false] 26)).heap.size := by simp; omega
    obtain ⟨i0, hi0, hy0, hy1, hy2⟩ := info_parts infoCh
    have Hi := Lib.hid hi0
    clear hown2 hb2 hb3 hi0 Hcc Hb1
    go_wp2_with (at_builtin; refine wpList_append_rds rfl _ _ 22 rfl w1.heap.size 26 i0 _ 3 24 descChs Hi.out hy0 hy1 hy2 rfl (by decide) _ n (chs ps) rfl Hown3.out _ (some ⟨w2.heap.size, 0, none⟩) 1 1 [.int .i64 (-7), .int .i64 (-7), .bool false] rfl rfl (by intro h; cases h) Hrd.out (by intro u hu; simp at hu; rcases hu with rfl | rfl <;> rfl) (by unfold maxLen; omega) (by omega) hsb ?_; intro v4 w4 hown4 hg4; obtain ⟨A4, cap4, rfl⟩ := own_size hown4; have hcp4 := own_cap_s hown4; have hcp4a := hcp4.1; have hcp4b := hcp4.2; unfold maxLen at hcp4b; have Hown4 := Lib.hid hown4; have Hg4 := Lib.hid (show World.grownBy _ w4 (Value.slice A2 n cap2).ownBlock from hg4); clear hown4 hg4 hcp4)
    have hb4 := Hb3.out.grown Hg4.out (by have := Hb3.out.size; omega) (fun x hx => by have := (Hown3.out.lt x hx).1; omega)
    have hr4 := own_rd_s Hown4.out
    have hb4s := hb4.size
    obtain ⟨bk, off, rfl, hbk, hc0⟩ := rd_right hr4 (k := 0) rfl
    obtain ⟨bk', off', he, _, hc1⟩ := rd_right hr4 (k := 1) rfl
    injection he with he; injection he with e1 e2
    subst e1 e2
    rw [chs_length, ← Hn.out] at hc0 hc1
    have Hp := Lib.hid (PrintChanges_calls (some ⟨bk, off, none⟩) n (n + 1) w4.heap.size ps w4 Hn.out (by omega) (Nat.le_refl _) (rd_left hr4) Hps.out (Pow.mono' (Ht.out.on hb4) hb4s))
    have Hr4 := Lib.hid hr4; have Hb4 := Lib.hid hb4; have Hc0 := Lib.hid hc0; have Hc1 := Lib.hid hc1
    clear hr4 hb4 hc0 hc1 Hown3 Hb3 Hg4 Hown4
    refine (Hp.out).mono ?_
    rintro en w5 ⟨A5, cap5, rfl, hown5, hb5⟩
    have hz5 := hb5.size
    have hb5' := Hb4.out.trans (hb5.mono hb4s)
    have Hq := Lib.hid (rPrintChanges_calls A n cap w.heap.size ps w5 Hn.out (by omega) hb5'.size (Hr.out.below hb5' (Nat.le_refl _)) Hps.out (Pow.mono' (Ht.out.on hb5') hb5'.size))
    have Hb5 := Lib.hid hb5'; have Hown5 := Lib.hid hown5; have Hb45 := Lib.hid hb5
    clear hb5 hb5' hown5 Hp
    go_wp2_with fail
    refine (Hq.out).mono ?_
    rintro en w6 ⟨A6, cap6, rfl, hown6, hb6⟩
    have hb6' := Hb5.out.trans (hb6.mono Hb5.out.size)
    have hb46 := Hb45.out.trans (hb6.mono hz5)
    have hr5 := (own_rd Hown5.out).below hb6 (Nat.le_refl _)
    have Hsb := Lib.hid (sameB_eq A5 A6 _ cap5 cap6 w5.heap.size w6.heap.size _ w6 rfl (fun h => (own_nil Hown5.out h).1) (fun h => (own_nil hown6 h).1) hr5 (own_rd hown6))
    have hr46 := Hr4.out.below hb46 (Nat.le_refl _)
    have d0 : w6.cell? ⟨bk, off + n * 3, none⟩ = some (.int .i64 (-7)) := (hb46.cell (p := ⟨bk, off + n * 3, none⟩) hbk).trans Hc0.out
    have d1 : w6.cell? ⟨bk, off + n * 3 + 1, none⟩ = some (.int .i64 (-7)) := (hb46.cell (p := ⟨bk, off + n * 3 + 1, none⟩) hbk).trans Hc1.out
    have Hsc := Lib.hid (sameC_eq (some ⟨bk, off, none⟩) A n cap4 cap _ _ ps w6 Hn.out (by omega) hcap (by unfold maxLen; have := hcp4b; omega) Hcm.out (rd_left hr46) (Hr.out.below hb6' (Nat.le_refl _)))
    have Hb6 := Lib.hid hb6'
    obtain ⟨L6, hL6⟩ : ∃ x, x = (Tx.pcF [] ps).1.length := ⟨_, rfl⟩
    obtain ⟨E6, hE6⟩ : ∃ x, x = (Tx.pcF [] ps).2 := ⟨_, rfl⟩
    rw [← hL6] at Hsb ⊢
    rw [← hE6]
    clear hL6 hE6 hb6 hb6' hb46 hr5 hown6 hr46 Hq
    go_wp2_with fail
    refine (Hsb.out).mono ?_
    rintro en w7 ⟨rfl, rfl⟩
    go_wp2_with fail
    refine (Hsc.out).mono ?_
    rintro en w8 ⟨rfl, q, rfl⟩
    have d0' : (w6.drewN q).cell? ⟨bk, off + n * 3, none⟩ = some (.int .i64 (-7)) := d0
    have d1' : (w6.drewN q).cell? ⟨bk, off + n * 3 + 1, none⟩ = some (.int .i64 (-7)) := d1
    have Hb8 := Lib.hid (below_drewN Hb6.out q)
    generalize w6.drewN q = w8 at *
    go_wp2_with (go_at_call 19; refine (num_calls _ _).mono ?_; rintro en w9 ⟨rfl, rfl⟩)
    go_ret
    exact ⟨by simp, Hb8.out⟩
end Go.Proofs.YtgoobadkbndfgaaDoor
