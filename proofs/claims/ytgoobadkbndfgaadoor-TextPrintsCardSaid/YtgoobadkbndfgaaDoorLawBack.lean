/- TextBack -/
import Derived.Test.YtgoobadkbndfgaaDoorTxAb
import Derived.Test.YtgoobadkbndfgaaDoorLawPrC
namespace Go.Proofs.YtgoobadkbndfgaaDoor
open Go.RowKit
set_option linter.unusedSimpArgs false
set_option linter.unusedVariables false
theorem printF_len (n : Int) (hn : -9223372036854775808 ≤ n ∧ n ≤ 9223372036854775807) (ps : List (Int × Int)) (hps : ∀ p ∈ ps, (-9223372036854775808 ≤ p.1 ∧ p.1 ≤ 9223372036854775807) ∧ -9223372036854775808 ≤ p.2 ∧ p.2 ≤ 9223372036854775807) : (Tx.printF n ps).1.length ≤ 100 + 45 * ps.length := by
  have hp : ∀ (ps : List (Int × Int)) (bs : List (BitVec 8)), (∀ p ∈ ps, (-9223372036854775808 ≤ p.1 ∧ p.1 ≤ 9223372036854775807) ∧ -9223372036854775808 ≤ p.2 ∧ p.2 ≤ 9223372036854775807) → (Tx.prF n bs ps).1.length ≤ bs.length + 45 * ps.length := by
    intro ps
    induction ps with
    | nil => intro bs _; simp [Tx.prF]
    | cons p ps ih =>
      intro bs h
      rw [Tx.prF]
      split
      · simp
      · have h1 := h p (by simp)
        have := Tx.rowF2_length bs p.1 p.2 (Lib.itoa_length_le _ h1.1.1 h1.1.2) (Lib.itoa_length_le _ h1.2.1 h1.2.2)
        have := ih (Tx.rowF bs [p.1, p.2]) (fun q hq => h q (by simp [hq]))
        simp; omega
  unfold Tx.printF
  split
  · simp
  · have h1 := hp ps (Tx.rowF Tx.vertices [n]) hps
    have h2 : (Tx.rowF Tx.vertices [n]).length ≤ 100 := by
      unfold Tx.rowF Tx.rowF
      have := Tx.sepF_length Tx.vertices
      have hd := Lib.itoa_length_le n hn.1 hn.2
      rw [List.length_append, List.length_append, Tx.digs_length]
      have : Tx.vertices.length = 8 := rfl
      simp; omega
    omega
theorem pcF_len : ∀ (cs : List Tx.Ch) (bs : List (BitVec 8)), (∀ p ∈ cs, (-9223372036854775808 ≤ p.u ∧ p.u ≤ 9223372036854775807) ∧ -9223372036854775808 ≤ p.v ∧ p.v ≤ 9223372036854775807) → (Tx.pcF bs cs).1.length ≤ bs.length + 46 * cs.length
  | [], bs, _ => by simp [Tx.pcF]
  | c :: cs, bs, h => by
    rw [Tx.pcF]
    split
    · simp
    · have h1 := h c (by simp)
      have := Tx.rowF2_length (bs ++ Tx.sign c.gone) c.u c.v (Lib.itoa_length_le _ h1.1.1 h1.1.2) (Lib.itoa_length_le _ h1.2.1 h1.2.2)
      have h2 := pcF_len cs (Tx.rowF (bs ++ Tx.sign c.gone) [c.u, c.v]) (fun q hq => h q (by simp [hq]))
      have h3 : (bs ++ Tx.sign c.gone).length = bs.length + 1 := by cases c.gone <;> simp [Tx.sign]
      simp; omega
set_option maxHeartbeats 8000000 in
set_option maxRecDepth 20000 in
theorem law_back (n : Int) (A : Option Addr) (k cap : Nat) (ps : List (Int × Int)) (A1 : Option Addr) (k1 cap1 : Nat) (cs : List Tx.Ch) (w : World) (hn0 : -9223372036854775808 ≤ n) (hn1 : n ≤ 9223372036854775807)
    (hk : k = ps.length) (hcap : k ≤ cap) (hcm : cap ≤ maxLen) (hr : Rd w w.heap.size A (pcs ps)) (hps : ∀ p ∈ ps, (-9223372036854775808 ≤ p.1 ∧ p.1 ≤ 9223372036854775807) ∧ -9223372036854775808 ≤ p.2 ∧ p.2 ≤ 9223372036854775807)
    (hk1 : k1 = cs.length) (hcap1 : k1 ≤ cap1) (hcm1 : cap1 ≤ maxLen) (hr1 : Rd w w.heap.size A1 (chs cs)) (hcs : ∀ p ∈ cs, (-9223372036854775808 ≤ p.u ∧ p.u ≤ 9223372036854775807) ∧ -9223372036854775808 ≤ p.v ∧ p.v ≤ 9223372036854775807) (ht : Pow w.heap.size w) :
    Calls Tryd.prog 10 #[.int .i64 n, .slice A k cap, .slice A1 k1 cap1] w fun e w' => e = .returned (.bool true) ∧ Below w.heap.size w w' := by
  have Hk := Lib.hid hk; have Hr := Lib.hid hr; have Hps := Lib.hid hps; have Hk1 := Lib.hid hk1; have Hr1 := Lib.hid hr1; have Hcs := Lib.hid hcs; have Ht := Lib.hid ht; have Hcm := Lib.hid hcm; have Hcm1 := Lib.hid hcm1
  unfold maxLen at hcm hcm1
  clear hk hr hps hk1 hr1 hcs ht
  go_enter Tryd.func10, Tryd.ntmps10
  go_wp2_with fail
  refine (first_calls w).mono ?_
  rintro en w1 ⟨rfl, hb1⟩
  have hz1 := hb1.size
  have Hb1 := Lib.hid hb1
  clear hb1
  by_cases hbig : 65536 < k
  · have t2 : (65536 : Int) < (k : Int) := by omega
    go_wp2_with fail
    go_ret
    exact ⟨rfl, Hb1.out⟩
  · have t2 : ¬ (65536 : Int) < (k : Int) := by omega
    by_cases hbig1 : 65536 < k1
    · have t3 : (65536 : Int) < (k1 : Int) := by omega
      go_wp2_with fail
      go_ret
      exact ⟨rfl, Hb1.out⟩
    · have t3 : ¬ (65536 : Int) < (k1 : Int) := by omega
      have Hpr := Lib.hid (Print_calls n A k cap w.heap.size ps w1 hn0 hn1 Hk.out (by omega) hz1 (Hr.out.below Hb1.out (Nat.le_refl _)) Hps.out (Pow.mono' (Ht.out.on Hb1.out) hz1))
      have hlen := printF_len n ⟨hn0, hn1⟩ ps Hps.out
      rw [← Hk.out] at hlen
      go_wp2_with fail
      refine (Hpr.out).mono ?_
      rintro en w2 ⟨A2, cap2, rfl, hown2, hb2⟩
      have Hap := Lib.hid (fun h => Tx.all_print n ps h)
      have Hown2 := Lib.hid hown2; have Hb2 := Lib.hid (Hb1.out.trans (hb2.mono hz1))
      have hz2 := hb2.size
      generalize Tx.printF n ps = R at *
      obtain ⟨b, E⟩ := R
      dsimp only at Hown2 Hap hlen ⊢
      clear hown2 hb2 Hpr
      go_upto_if 44 with (go_at_call 19; refine (num_calls _ _).mono ?_; rintro en wC ⟨rfl, rfl⟩)
      go_cut [] (fun w' => Below w.heap.size w w')
      case first =>
        by_cases hE : E = 0
        · subst hE
          have ha := Hap.out rfl
          have hpa := Parse_calls A2 b.length cap2 w2.heap.size b w2 rfl (by omega) (own_cap Hown2.out).1 (own_nil Hown2.out) (Nat.le_refl _) (own_rd Hown2.out)
          unfold ParseSaid at hpa
          rw [ha] at hpa
          have e1 : Tx.Run.eEnd ⟨ps, 0, ps.length + 1, n, true⟩ = 0 := rfl
          have e2 : Tx.Run.pEnd ⟨ps, 0, ps.length + 1, n, true⟩ = ps := rfl
          have e3 : Tx.Run.fEnd ⟨ps, 0, ps.length + 1, n, true⟩ 0 0 = 0 := rfl
          rw [e1, e2, e3, if_pos rfl, ← Hk.out] at hpa
          have Hpa := Lib.hid hpa
          have q1 : (n != n) = false := by simp
          clear hpa ha e1 e2 e3
          go_wp2_with fail
          refine (Hpa.out).mono ?_
          rintro en w3 ⟨A3, cap3, rfl, hown3, hb3⟩
          have Hb3 := Lib.hid (Hb2.out.trans (hb3.mono Hb2.out.size))
          have hcp := own_cap_s hown3
          have Hsp := Lib.hid (sameP_eq A3 A k cap3 cap w3.heap.size w.heap.size ps w3 Hk.out hcp.1 hcap hcp.2 Hcm.out (own_rd_s hown3) (Hr.out.below Hb3.out (Nat.le_refl _)))
          clear hown3 hb3 hcp Hpa
          go_wp2_with fail
          refine (Hsp.out).mono ?_
          rintro en w4 ⟨rfl, q, rfl⟩
          have Hb4 := Lib.hid (below_drewN Hb3.out q)
          generalize w3.drewN q = w4 at *
          go_wp2_with (go_at_call 19; refine (num_calls _ _).mono ?_; rintro en wC ⟨rfl, rfl⟩)
          go_meet
          exact Hb4.out
        · have q1 : (E == 0) = false := by simpa using hE
          go_wp2_with fail
          go_meet
          exact Hb2.out
      case rest =>
        have Hb3 := Lib.hid hcut
        have hz3 := hcut.size
        clear hcut Hb2 Hown2 Hap hlen
        have Hpc := Lib.hid (PrintChanges_calls A1 k1 cap1 w.heap.size cs wc Hk1.out (by omega) hz3 (Hr1.out.below Hb3.out (Nat.le_refl _)) Hcs.out (Pow.mono' (Ht.out.on Hb3.out) hz3))
        have hlen := pcF_len cs [] Hcs.out
        rw [← Hk1.out] at hlen
        have He := Lib.hid (Tx.pcF_e cs)
        have Hbp := Lib.hid (fun h => Tx.back_pieces cs h)
        generalize Tx.pcF [] cs = R at *
        obtain ⟨c, F⟩ := R
        dsimp only at Hbp hlen He
        go_wp2_with fail
        refine (Hpc.out).mono ?_
        rintro en w5 ⟨A5, cap5, rfl, hown5, hb5⟩
        dsimp only at hown5 ⊢
        have Hb5 := Lib.hid (Hb3.out.trans (hb5.mono hz3))
        have Hown5 := Lib.hid hown5
        have hz5 := hb5.size
        clear hown5 hb5 Hpc
        rcases He.out with hF | hF
        · subst hF
          obtain ⟨hpi, hgood⟩ := Hbp.out rfl
          have hcp5 := own_cap Hown5.out
          have Hch := Lib.hid (Changes_calls A5 c.length cap5 w5.heap.size c n w5 rfl (by simp at hlen; omega) hcp5.1 hcp5.2 (own_nil Hown5.out) (Nat.le_refl _) (own_rd Hown5.out))
          rw [hpi] at Hch
          have Hall := Lib.hid (fun h => Tx.chRun_all n cs hgood h)
          have Hfst := Lib.hid (fun i d => Tx.chRun_first n cs i d hgood)
          generalize Tx.chRun n (cs.map Tx.lineC ++ [[]]) = CR at *
          clear hpi hcp5 Hbp hgood
          go_wp2_with (go_at_call 19; refine (num_calls _ _).mono ?_; rintro en wC ⟨rfl, rfl⟩)
          refine (Hch.out).mono ?_
          rintro en w6 ⟨A6, cap6, rfl, hown6, hb6⟩
          have Hb6 := Lib.hid (Hb5.out.trans (hb6.mono Hb5.out.size))
          have Hown6 := Lib.hid hown6
          clear hown6 hb6 Hch
          obtain ⟨O, hO⟩ : ∃ x, x = CR.out.length := ⟨_, rfl⟩
          obtain ⟨Ln, hLn⟩ : ∃ x, x = CR.line := ⟨_, rfl⟩
          obtain ⟨Ee, hEe⟩ : ∃ x, x = CR.e := ⟨_, rfl⟩
          rw [← hO, ← hLn, ← hEe]
          rw [← hO] at Hown6
          have HO := Lib.hid hO; have HLn := Lib.hid hLn; have HEe := Lib.hid hEe
          clear hO hLn hEe
          go_wp2_with fail
          go_loopw [20] (fun iv wr => ∃ i : Nat, iv = .int .i64 (i : Int) ∧ i ≤ k1 ∧ (∀ (j : Nat) (d : Tx.Ch), j < i → cs[j]? = some d → ¬ (n ≤ d.u ∨ n ≤ d.v)) ∧ w6 = wr) (fun iv _ => k1 - (intOf iv).toNat)
          case atStart => exact ⟨0, rfl, by omega, fun j d h => by omega, rfl⟩
          case round =>
            obtain ⟨i, rfl, hi, hgood, rfl⟩ := hrel
            have Hgood := Lib.hid hgood
            clear hgood
            by_cases hlt : i < k1
            · have q1 : (i : Int) < (k1 : Int) := by omega
              obtain ⟨⟨u, v, gn, e0⟩, hp⟩ : ∃ p, cs[i]? = some p := ⟨cs[i]'(by rw [← Hk1.out]; omega), List.getElem?_eq_getElem _⟩
              obtain ⟨bb, off, rfl, hbb, hc1, hc2, hc3⟩ := rd_ch (Hr1.out.below Hb6.out (Nat.le_refl _)) hp
              dsimp only at hc1 hc2 hc3
              by_cases h1 : n ≤ u
              · have hbd : n ≤ u ∨ n ≤ v := by omega
                obtain ⟨x1, x2⟩ := Hfst.out i ⟨u, v, gn, e0⟩ hp hbd Hgood.out
                have y1 : Ee = 42 := by rw [HEe.out]; exact x1
                have y2 : Ln = (i : Int) + 1 := by rw [HLn.out]; unfold Tx.CRun.line; rw [if_neg (by rw [x1]; decide), x2]; omega
                have y3 : O = 0 := by rw [HO.out]; unfold Tx.CRun.out; rw [if_neg (by rw [x1]; decide)]; rfl
                subst y1 y2 y3
                clear hp x1 x2 hbd
                go_wp2_with (go_at_call 19; refine (num_calls _ _).mono ?_; rintro en wC ⟨rfl, rfl⟩)
                go_ret
                exact ⟨by simp, Hb6.out⟩
              · by_cases h2 : n ≤ v
                · have hbd : n ≤ u ∨ n ≤ v := by omega
                  obtain ⟨x1, x2⟩ := Hfst.out i ⟨u, v, gn, e0⟩ hp hbd Hgood.out
                  have y1 : Ee = 42 := by rw [HEe.out]; exact x1
                  have y2 : Ln = (i : Int) + 1 := by rw [HLn.out]; unfold Tx.CRun.line; rw [if_neg (by rw [x1]; decide), x2]; omega
                  have y3 : O = 0 := by rw [HO.out]; unfold Tx.CRun.out; rw [if_neg (by rw [x1]; decide)]; rfl
                  subst y1 y2 y3
                  clear hp x1 x2 hbd
                  go_wp2_with (go_at_call 19; refine (num_calls _ _).mono ?_; rintro en wC ⟨rfl, rfl⟩)
                  go_ret
                  exact ⟨by simp, Hb6.out⟩
                · have Hg2 := Lib.hid (show ∀ (j : Nat) (d : Tx.Ch), j < i + 1 → cs[j]? = some d → ¬ (n ≤ d.u ∨ n ≤ d.v) from fun j d hj hd => by
                    by_cases hji : j < i
                    · exact Hgood.out j d hji hd
                    · have : j = i := by omega
                      subst this
                      rw [hp] at hd; injection hd with hd; subst hd
                      dsimp only; omega)
                  clear hp
                  go_wp2_with fail
                  go_roundw
                  case rel => exact ⟨i + 1, by congr 1, by omega, Hg2.out, by trivial⟩
                  case measure => simp [intOf]; omega
            · have hik : i = k1 := by omega
              subst hik
              obtain ⟨x1, x2⟩ := Hall.out (fun d hd => by
                obtain ⟨j, hj⟩ := List.mem_iff_getElem?.1 hd
                exact Hgood.out j d (by rw [Hk1.out]; exact (List.getElem?_eq_some_iff.1 hj).1) hj)
              have hout : CR.out = CR.cs := by unfold Tx.CRun.out; rw [if_pos x1]
              have y1 : Ee = 0 := by rw [HEe.out]; exact x1
              have y2 : Ln = 0 := by rw [HLn.out]; unfold Tx.CRun.line; rw [if_pos x1]
              have y3 : O = i := by
                rw [HO.out, hout, Hk1.out]
                simpa using congrArg List.length x2
              have hcp := own_cap_s Hown6.out
              have hsc := sameC_calls A6 A1 O cap6 i cap1 w6.heap.size w.heap.size CR.out cs w6 HO.out Hk1.out hcp.1 hcap1 hcp.2 Hcm1.out (own_rd_s Hown6.out) (Hr1.out.below Hb6.out (Nat.le_refl _))
              rw [decide_eq_true (show CR.out.map Tx.Ch.tr = cs.map Tx.Ch.tr by rw [hout]; exact x2)] at hsc
              have Hsc := Lib.hid hsc
              subst y1 y2
              clear x1 x2 hout y3 hcp hsc
              go_wp2_with fail
              refine (Hsc.out).mono ?_
              rintro en w8 ⟨rfl, q, rfl⟩
              have Hb8 := Lib.hid (below_drewN Hb6.out q)
              generalize w6.drewN q = w8 at *
              go_wp2_with (go_at_call 19; refine (num_calls _ _).mono ?_; rintro en wC ⟨rfl, rfl⟩)
              go_ret
              exact ⟨by simp, Hb8.out⟩
        · injection hF with hF1 hF2
          subst hF1 hF2
          go_wp2_with (go_at_call 19; refine (num_calls _ _).mono ?_; rintro en wC ⟨rfl, rfl⟩)
          go_ret
          exact ⟨rfl, Hb5.out⟩
end Go.Proofs.YtgoobadkbndfgaaDoor
