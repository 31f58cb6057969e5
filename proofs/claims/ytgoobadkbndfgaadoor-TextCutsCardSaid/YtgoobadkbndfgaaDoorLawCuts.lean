/- TextCuts -/
import Derived.Test.YtgoobadkbndfgaaDoorTxB
import Derived.BigQuiet
namespace Go.Proofs.YtgoobadkbndfgaaDoor
open Go.RowKit
set_option linter.unusedSimpArgs false
set_option linter.unusedVariables false
theorem told_all {b : List (BitVec 8)} (h : (Tx.all b).eEnd = 0) : Tx.told b = (Tx.all b).pEnd := by
  have hw : (Tx.run 0 false (Tx.whole b)).e = 0 := by
    by_cases he : (Tx.run 0 false (Tx.whole b)).e = 0
    · exact he
    · rw [Tx.all_fault he] at h; unfold Tx.Run.eEnd at h; rw [if_pos he] at h; exact absurd h he
  obtain ⟨h1, h2, h3, h4⟩ := Tx.all_told_on (b := b) hw rfl
  rw [h2] at h
  have ha := Tx.all_on hw
  have hp : (Tx.all b).pEnd = (Tx.all b).pairs := by unfold Tx.Run.pEnd; rw [h2, if_pos h]
  rw [h1, hp, ha]
  unfold Tx.Run.pEnd
  rw [if_pos h]
set_option maxHeartbeats 8000000 in
set_option maxRecDepth 20000 in
theorem law_cuts (A : Option Addr) (n cap : Nat) (b : List (BitVec 8)) (A1 : Option Addr) (n1 cap1 : Nat) (zs : List Int) (A2 : Option Addr) (n2 cap2 : Nat) (ys : List Int) (w : World) (hn : n = b.length) (hcap : n ≤ cap) (hcm : cap ≤ maxLen) (hnil : A = none → n = 0 ∧ cap = 0) (hr : Rd w w.heap.size A (b.map V8))
    (hn1 : n1 = zs.length) (hcap1 : n1 ≤ cap1) (hcm1 : cap1 ≤ maxLen) (hr1 : Rd w w.heap.size A1 (zs.map VI))
    (hn2 : n2 = ys.length) (hcap2 : n2 ≤ cap2) (hcm2 : cap2 ≤ maxLen) (hr2 : Rd w w.heap.size A2 (ys.map VI)) :
    Calls Tryd.prog 7 #[.slice A n cap, .slice A1 n1 cap1, .slice A2 n2 cap2] w fun e w' => e = .returned (.bool true) ∧ Below w.heap.size w w' := by
  have Hn := Lib.hid hn; have Hnil := Lib.hid hnil; have Hr := Lib.hid hr; have Hr1 := Lib.hid hr1; have Hr2 := Lib.hid hr2; have Hn1 := Lib.hid hn1; have Hn2 := Lib.hid hn2
  have Hc := Lib.hid hcm; have Hc1 := Lib.hid hcm1; have Hc2 := Lib.hid hcm2
  clear hn hnil hr hr1 hr2 hn1 hn2
  unfold maxLen at hcm hcm1 hcm2
  go_enter Tryd.func7, Tryd.ntmps7
  go_wp2_with fail
  refine (first_calls w).mono ?_
  rintro en w1 ⟨rfl, hb1⟩
  have hz1 := hb1.size
  have Hb1 := Lib.hid hb1
  clear hb1
  by_cases hbig : 65536 < n
  · have t1 : ((n : Int) > 65536) = True := by simp; omega
    have t2 : (65536 : Int) < (n : Int) := by omega
    go_wp2_with fail
    go_ret
    exact ⟨rfl, Hb1.out⟩
  · have t2 : ¬ (65536 : Int) < (n : Int) := by omega
    have Hs1 := Lib.hid (scanned_calls A n cap w.heap.size b A1 n1 cap1 w.heap.size zs w1 Hn.out (by omega) hcap Hc.out Hnil.out hz1 (Hr.out.below Hb1.out (Nat.le_refl _)) Hn1.out hcap1 Hc1.out hz1 (Hr1.out.below Hb1.out (Nat.le_refl _)))
    unfold ScannedSaid at Hs1
    have Hte := Lib.hid (fun h => told_all (b := b) h)
    have hp0 : (Tx.all b).eEnd ≠ 0 → (Tx.all b).pEnd = [] := fun h => by unfold Tx.Run.pEnd; rw [if_neg h]
    have Hp0 := Lib.hid hp0
    have HA := Lib.hid (show ∀ w', Below w.heap.size w w' → Rd w' w.heap.size A (b.map V8) from fun w' hb => Hr.out.below hb (Nat.le_refl _))
    have HZ := Lib.hid (show ∀ w', Below w.heap.size w w' → Rd w' w.heap.size A2 (ys.map VI) from fun w' hb => Hr2.out.below hb (Nat.le_refl _))
    obtain ⟨P, hP⟩ : ∃ P, P = Tx.told b := ⟨_, rfl⟩
    obtain ⟨E, hE⟩ : ∃ E, E = (Tx.all b).eEnd := ⟨_, rfl⟩
    obtain ⟨N, hN⟩ : ∃ N, N = (Tx.all b).n := ⟨_, rfl⟩
    obtain ⟨F, hF⟩ : ∃ F, F = (Tx.all b).fEnd 0 0 := ⟨_, rfl⟩
    rw [← hP, ← hE, ← hN, ← hF] at Hs1
    have HP := Lib.hid hP; have HE := Lib.hid hE; have HN := Lib.hid hN; have HF := Lib.hid hF
    clear hP hE hN hF hp0
    go_wp2_with fail
    refine (Hs1.out).mono ?_
    rintro en w2 ⟨Al, capl, rfl, hown2, hb2⟩
    have hz2 := hb2.size
    have hb3 : Below w2.heap.size w2 (w2.alloc (.cells #[.slice Al P.length capl, .int .i64 E, .int .i64 N, .int .i64 F] 53)) := (Below.refl _ _).alloc (Nat.le_refl _) _
    have hto : ToIs (w2.alloc (.cells #[.slice Al P.length capl, .int .i64 E, .int .i64 N, .int .i64 F] 53)) w2.heap.size (.slice Al P.length capl) E N F := heap_alloc_new _ _
    have hown3 := own_below_s hown2 hb3 (Nat.le_refl _)
    have Hb3 := Lib.hid (Hb1.out.trans ((hb2.mono hz1).trans (hb3.mono (by omega))))
    have hz3 : (w2.alloc (.cells #[.slice Al P.length capl, .int .i64 E, .int .i64 N, .int .i64 F] 53)).heap.size = w2.heap.size + 1 := by simp
    have Hto := Lib.hid hto; have Hown3 := Lib.hid hown3
    have Hs2 := Lib.hid (scanned_calls A n cap w.heap.size b A2 n2 cap2 w.heap.size ys (w2.alloc (.cells #[.slice Al P.length capl, .int .i64 E, .int .i64 N, .int .i64 F] 53)) Hn.out (by omega) hcap Hc.out Hnil.out (by omega) (HA.out _ Hb3.out) Hn2.out hcap2 Hc2.out (by omega) (HZ.out _ Hb3.out))
    unfold ScannedSaid at Hs2
    rw [← HP.out, ← HE.out, ← HN.out, ← HF.out] at Hs2
    clear hto hown3 hown2 hb2 hb3 Hs1 Hb1
    go_wp2_with fail
    refine (Hs2.out).mono ?_
    rintro en w4 ⟨Al4, capl4, rfl, hown4, hb4⟩
    rw [hz3] at hown4 hb4
    have hz4 := hb4.size
    rw [hz3] at hz4
    have hb5 : Below w4.heap.size w4 (w4.alloc (.cells #[.slice Al4 P.length capl4, .int .i64 E, .int .i64 N, .int .i64 F] 53)) := (Below.refl _ _).alloc (Nat.le_refl _) _
    have hto5 : ToIs (w4.alloc (.cells #[.slice Al4 P.length capl4, .int .i64 E, .int .i64 N, .int .i64 F] 53)) w4.heap.size (.slice Al4 P.length capl4) E N F := heap_alloc_new _ _
    have hto3 := (Hto.out.below hb4 (by omega)).below hb5 (by omega)
    have hr3 := ((own_rd_s Hown3.out).below hb4 (Nat.le_of_eq hz3)).below hb5 (by omega)
    have hr4 := (own_rd_s hown4).below hb5 (Nat.le_refl _)
    have hcp3 := own_cap_s Hown3.out; have hcp4 := own_cap_s hown4
    have hbb : Below w.heap.size w (w4.alloc (.cells #[.slice Al4 P.length capl4, .int .i64 E, .int .i64 N, .int .i64 F] 53)) := Hb3.out.trans ((hb4.mono (by omega)).trans (hb5.mono (by omega)))
    have hz5 : (w4.alloc (.cells #[.slice Al4 P.length capl4, .int .i64 E, .int .i64 N, .int .i64 F] 53)).heap.size = w4.heap.size + 1 := by simp
    have Hsp := Lib.hid (sameP_eq Al Al4 P.length capl capl4 _ _ P (w4.alloc (.cells #[.slice Al4 P.length capl4, .int .i64 E, .int .i64 N, .int .i64 F] 53)) rfl hcp3.1 hcp4.1 hcp3.2 hcp4.2 hr3 hr4)
    have a0 := hto3.c0; have b0 := hto5.c0
    have Hto3 := Lib.hid hto3; have Hto5 := Lib.hid hto5; have Hr3 := Lib.hid hr3; have Hbb := Lib.hid hbb
    clear hb4 hb5 hto3 hto5 hr3 hr4 hown4 hbb Hb3 Hto Hown3 Hs2
    go_wp2_with fail
    refine (Hsp.out).mono ?_
    rintro en w6 ⟨rfl, q, rfl⟩
    have hto3 : ToIs ((w4.alloc (.cells #[.slice Al4 P.length capl4, .int .i64 E, .int .i64 N, .int .i64 F] 53)).drewN q) w2.heap.size (.slice Al P.length capl) E N F := Hto3.out
    have hto5 : ToIs ((w4.alloc (.cells #[.slice Al4 P.length capl4, .int .i64 E, .int .i64 N, .int .i64 F] 53)).drewN q) w4.heap.size (.slice Al4 P.length capl4) E N F := Hto5.out
    have hr3 : Rd ((w4.alloc (.cells #[.slice Al4 P.length capl4, .int .i64 E, .int .i64 N, .int .i64 F] 53)).drewN q) _ Al (pcs P) := Hr3.out
    have hbb := below_drewN Hbb.out q
    have hz6 : ((w4.alloc (.cells #[.slice Al4 P.length capl4, .int .i64 E, .int .i64 N, .int .i64 F] 53)).drewN q).heap.size ≥ w4.heap.size + 1 := by show (w4.alloc _).heap.size ≥ _; simp
    generalize (w4.alloc (.cells #[.slice Al4 P.length capl4, .int .i64 E, .int .i64 N, .int .i64 F] 53)).drewN q = w6 at *
    have a1 := hto3.c1; have a2 := hto3.c2; have a3 := hto3.c3; have b1 := hto5.c1; have b2 := hto5.c2; have b3 := hto5.c3
    have Hto3 := Lib.hid hto3; have Hr3 := Lib.hid hr3; have Hbb := Lib.hid hbb
    have Hpa := Lib.hid (Parse_calls A n cap w.heap.size b w6 Hn.out (by omega) hcap Hnil.out hbb.size (HA.out _ hbb))
    unfold ParseSaid at Hpa
    rw [← HE.out, ← HN.out, ← HF.out] at Hpa
    obtain ⟨M, hM⟩ : ∃ M, M = (if E = 0 then N else 0) := ⟨_, rfl⟩
    rw [← hM] at Hpa
    have HM := Lib.hid hM
    obtain ⟨Q, hQ⟩ : ∃ Q, Q = (Tx.all b).pEnd := ⟨_, rfl⟩
    rw [← hQ] at Hpa
    have HQ := Lib.hid hQ
    clear hM hQ
    clear hto3 hto5 hr3 hbb Hsp a0 b0
    have e1 : (E != E) = false := by simp
    have e2 : (N != N) = false := by simp
    have e3 : (F != F) = false := by simp
    go_wp2_with fail
    refine (Hpa.out).mono ?_
    rintro en w7 ⟨Al7, capl7, rfl, hown7, hb7⟩
    have hto7 := Hto3.out.below hb7 (by omega)
    have hr7 := Hr3.out.below hb7 (by omega)
    have hz7 := hb7.size
    have Hb7 := Lib.hid (Hbb.out.trans (hb7.mono Hbb.out.size))
    have c0 := hto7.c0; have c1 := hto7.c1; have c2 := hto7.c2; have c3 := hto7.c3
    have Hto7 := Lib.hid hto7; have Hr7 := Lib.hid hr7; have Hown7 := Lib.hid hown7
    clear hto7 hr7 hown7 hb7 Hpa a1 a2 a3 b1 b2 b3
    go_wp2_with fail
    go_big_quiet (first | (go_at_call 19; refine Calls.quiet_of_same ((num_calls _ _).mono fun _ _ h => ⟨h.1, h.2.symm⟩)))
    have hto8 : ToIs (w7.drewN nq) w2.heap.size (.slice Al P.length capl) E N F := Hto7.out
    have hr8 : Rd (w7.drewN nq) _ Al (pcs P) := Hr7.out
    have hown8 : (w7.drewN nq).ownsRow w6.heap.size 76 2 (.slice Al7 Q.length capl7) Q.length (pcs Q) := own_drawN Hown7.out nq
    have hb8 := below_drewN Hb7.out nq
    generalize w7.drewN nq = w8 at *
    have d0 := hto8.c0; have d1 := hto8.c1; have d2 := hto8.c2; have d3 := hto8.c3
    have Hr8 := Lib.hid hr8; have Hown8 := Lib.hid hown8; have Hb8 := Lib.hid hb8
    clear hto8 hr8 hown8 hb8 c0 c1 c2 c3
    by_cases hE : E = 0
    · subst hE
      have hPQ : P = Q := by rw [HP.out, HQ.out]; exact Hte.out HE.out.symm
      have hMN : M = N := by rw [HM.out, if_pos rfl]
      subst hPQ hMN
      have hcq := own_cap_s Hown8.out
      have Hsp2 := Lib.hid (sameP_eq Al7 Al P.length capl7 capl _ _ P w8 rfl hcq.1 hcp3.1 hcq.2 hcp3.2 (own_rd_s Hown8.out) Hr8.out)
      go_wp2_with fail
      refine (Hsp2.out).mono ?_
      rintro en w9 ⟨rfl, q2, rfl⟩
      have d2' : (w8.drewN q2).cell? ⟨w2.heap.size, 2, none⟩ = some (.int .i64 M) := d2
      have Hb9 := Lib.hid (below_drewN Hb8.out q2)
      generalize w8.drewN q2 = w9 at *
      go_wp2_with fail
      go_ret
      exact ⟨by simp, Hb9.out⟩
    · have hM0 : M = 0 := by rw [HM.out, if_neg hE]
      have hQ0 : Q = [] := by rw [HQ.out]; exact Hp0.out (by rw [← HE.out]; exact hE)
      subst hM0 hQ0
      have hne : (E != 0) = true := by simpa using hE
      clear hE
      go_wp2_with fail
      go_ret
      exact ⟨rfl, Hb8.out⟩
end Go.Proofs.YtgoobadkbndfgaaDoor
