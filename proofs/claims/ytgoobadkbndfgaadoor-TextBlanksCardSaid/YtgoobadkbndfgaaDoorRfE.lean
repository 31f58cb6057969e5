/- the reference's Changes -/
import Derived.Test.YtgoobadkbndfgaaDoorRfD
namespace Go.Proofs.YtgoobadkbndfgaaDoor
open Go.RowKit
set_option linter.unusedSimpArgs false
set_option linter.unusedVariables false
namespace Tx
theorem chRun_snoc_nil (n : Int) : ∀ (ls : List (List By)), (chRun n (ls ++ [[]])).e = (chRun n ls).e ∧ (chRun n (ls ++ [[]])).cs = (chRun n ls).cs ∧ ((chRun n ls).e ≠ 0 → (chRun n (ls ++ [[]])).k = (chRun n ls).k)
  | [] => by
    have h : chRun n ([] ++ [[]]) = ⟨[], 1, 0⟩ := rfl
    rw [h]
    exact ⟨rfl, rfl, fun h => absurd rfl h⟩
  | l :: ls => by
    obtain ⟨h1, h2, h3⟩ := chRun_snoc_nil n ls
    rw [List.cons_append]
    by_cases hw : words l = []
    · rw [chRun_blank hw, chRun_blank hw]
      exact ⟨h1, h2, fun h => by show _ + 1 = _ + 1; rw [h3 h]⟩
    · by_cases he : (change (words l) n).e = 0
      · rw [chRun_says hw he, chRun_says hw he]
        exact ⟨h1, by show _ :: _ = _ :: _; rw [h2], fun h => by show _ + 1 = _ + 1; rw [h3 h]⟩
      · rw [chRun_fault hw he, chRun_fault hw he]
        exact ⟨rfl, rfl, fun _ => rfl⟩
theorem chRun_lines (n : Int) (bs : List By) : (chRun n (pieces bs)).out = (chRun n (lines bs)).out ∧ (chRun n (pieces bs)).line = (chRun n (lines bs)).line ∧ (chRun n (pieces bs)).e = (chRun n (lines bs)).e := by
  unfold pieces lines lasts
  by_cases ht : tail bs = []
  · rw [if_pos ht, ht, List.append_nil]
    obtain ⟨h1, h2, h3⟩ := chRun_snoc_nil n (whole bs)
    refine ⟨?_, ?_, h1⟩
    · unfold CRun.out; rw [h1, h2]
    · unfold CRun.line; rw [h1]
      by_cases he : (chRun n (whole bs)).e = 0
      · rw [if_pos he, if_pos he]
      · rw [if_neg he, if_neg he, h3 he]
  · rw [if_neg ht]
    exact ⟨rfl, rfl, rfl⟩
theorem change_not3 (n : Int) (ws : List (List By)) (h : ws.length ≠ 3) : change ws n = ⟨0, 0, false, 40⟩ := by
  match ws, h with
  | [], _ => rfl
  | [a], _ => rfl
  | [a, b], _ => rfl
  | [a, b, c], h => exact absurd rfl h
  | a :: b :: c :: d :: r, _ => rfl
end Tx
theorem chs_one (ps : List Tx.Ch) : ∀ u ∈ chs ps, u.oneCell' = true := by
  intro u hu
  unfold chs at hu
  obtain ⟨p, _, hp⟩ := List.mem_flatMap.1 hu
  simp at hp
  rcases hp with rfl | rfl | rfl <;> rfl
set_option maxHeartbeats 8000000 in
set_option maxRecDepth 20000 in
theorem ChangesR_calls (A : Option Addr) (m cap B : Nat) (bs : List (BitVec 8)) (n : Int) (w : World) (hn : m = bs.length) (hm : m ≤ 4294960000) (hcap : m ≤ cap) (hc63 : cap ≤ maxLen) (hnil : A = none → m = 0 ∧ cap = 0) (hB : B ≤ w.heap.size) (hr : Rd w B A (bs.map V8)) :
    Calls Tryd.prog 50 #[.slice A m cap, .int .i64 n] w (ChangesSaid (Tx.chRun n (Tx.pieces bs)) w) := by
  obtain ⟨i0, hi0, hz0, hz1, hz2⟩ := info_parts infoCh
  have Hi := Lib.hid hi0
  have hll := Tx.lines_length _ bs (Nat.le_refl _)
  rw [← hn] at hll
  have Hline := Lib.hid (fun l (hl : l ∈ Tx.lines bs) => Tx.line_length _ bs (Nat.le_refl _) l hl)
  have Hlines := Lib.hid (Lines_calls A m cap B bs w hn (by omega) hcap (by unfold maxLen at hc63; omega) hnil hB hr)
  have Hl := Lib.hid (Tx.chRun_lines n bs)
  have Hbl := Lib.hid (show bs.length ≤ 4294960000 by omega)
  obtain ⟨LS, hLS⟩ : ∃ x, x = Tx.lines bs := ⟨_, rfl⟩
  rw [← hLS] at hll Hline Hlines Hl
  clear hn hnil hr hi0 hLS
  go_enter Tryd.func50, Tryd.ntmps50
  go_wp2_with fail
  refine (Hlines.out).mono ?_
  rintro en w3 ⟨Al, capl, rfl, hown3, hb3⟩
  have hcl := own_cap hown3
  obtain ⟨k, hk⟩ : ∃ x, x = LS.length := ⟨_, rfl⟩
  rw [← hk] at hll hcl
  have hown3' : w3.ownsRow w.heap.size 9 1 (.slice Al k capl) k (LS.map SS) := by rw [hk]; exact hown3
  rw [← hk]
  have Hk := Lib.hid hk
  obtain ⟨hcl1, hcl2⟩ := hcl
  have Hown3 := Lib.hid hown3'; have Hb3 := Lib.hid hb3
  clear hown3 hown3' hb3 hk Hlines
  go_wp2_with fail
  go_loopw [7, 9] (fun v iv wr => ∃ (i : Nat) (P : List Tx.Ch), iv = .int .i64 (i : Int) ∧ wr.ownsRow w.heap.size 26 3 v P.length (chs P) ∧ wr.ownsRow w.heap.size 9 1 (.slice Al k capl) k (LS.map SS) ∧ Below w.heap.size w wr ∧ i ≤ k ∧ P.length ≤ i ∧
    Tx.chRun n LS = ⟨P ++ (Tx.chRun n (LS.drop i)).cs, i + (Tx.chRun n (LS.drop i)).k, (Tx.chRun n (LS.drop i)).e⟩) (fun _ iv _ => k - (intOf iv).toNat)
  case atStart => exact ⟨0, [], rfl, World.ownsRow_nil _ _ _ _, Hown3.out, Hb3.out, by omega, by simp, by simp⟩
  case round =>
    obtain ⟨i, P, rfl, hp, hl2, hbr, hik, hPi, hrun⟩ := hrel
    obtain ⟨Ap, capp, rfl⟩ := own_size hp
    have hszr := hbr.size
    have Hp := Lib.hid hp; have Hls := Lib.hid hl2; have Hbr := Lib.hid hbr; have Hrun := Lib.hid hrun
    have hcp := own_cap_s hp
    clear hp hl2 hbr hrun
    by_cases hlt : i < k
    · have q1 : (i : Int) < (k : Int) := by omega
      obtain ⟨l, hl⟩ : ∃ c, LS[i]? = some c := ⟨LS[i]'(by rw [← Hk.out]; omega), List.getElem?_eq_getElem _⟩
      obtain ⟨bb, off, rfl, hbb, hcell⟩ := rd_ss (own_rd Hls.out) hl
      have hlm := Hline.out l (List.mem_of_getElem? hl)
      have hll2 : l.length ≤ 1099511627776 := by have := Hbl.out; omega
      have hdrop : LS.drop i = l :: LS.drop (i + 1) := by
        rw [List.drop_eq_getElem_cons (by rw [← Hk.out]; omega)]; congr 1
        exact (List.getElem?_eq_some_iff.1 hl).2
      rw [hdrop] at Hrun
      have Hlm := Lib.hid hlm
      clear hl hdrop hlm
      go_wp2_with fail
      refine (Words_calls l wr hll2).mono ?_
      rintro en w4 ⟨Aw, capw, rfl, hown4, hb4⟩
      have hwl : ∀ x ∈ Tx.words l, x.length ≤ 1099511627776 := by
        intro x hx
        unfold Tx.words at hx
        obtain ⟨p, hp, rfl⟩ := List.mem_map.1 hx
        unfold Tx.cutOut
        simp; omega
      have Hwl := Lib.hid hwl
      have Hp4 := Lib.hid (own_below_s Hp.out hb4 (Nat.le_refl _)); have Hls4 := Lib.hid (own_below Hls.out hb4 (Nat.le_refl _)); have Hb4 := Lib.hid (Hbr.out.trans (hb4.mono hszr))
      have hsz4 := hb4.size
      have HRb := Lib.hid (fun hw => Tx.chRun_blank (n := n) (l := l) (ls := LS.drop (i + 1)) hw)
      have HRf := Lib.hid (fun hw he => Tx.chRun_fault (n := n) (l := l) (ls := LS.drop (i + 1)) hw he)
      have HRs := Lib.hid (fun hw he => Tx.chRun_says (n := n) (l := l) (ls := LS.drop (i + 1)) hw he)
      obtain ⟨WS, hWS⟩ : ∃ x, x = Tx.words l := ⟨_, rfl⟩
      rw [← hWS] at hown4 Hwl HRb HRf HRs
      rw [← hWS]
      have hcw := own_cap hown4
      have Hrw := Lib.hid (own_rd hown4)
      clear hwl hown4 hb4 Hp Hls Hbr hcell hWS
      by_cases hnil : WS = []
      · subst hnil
        have Hrun2 := Lib.hid (show Tx.chRun n LS = ⟨P ++ (Tx.chRun n (LS.drop (i + 1))).cs, (i + 1) + (Tx.chRun n (LS.drop (i + 1))).k, (Tx.chRun n (LS.drop (i + 1))).e⟩ by
          rw [Hrun.out, HRb.out rfl]
          dsimp only
          congr 1
          omega)
        clear Hrun HRb HRf HRs
        go_wp2_with fail
        go_roundw
        case rel => exact ⟨i + 1, P, by congr 1, Hp4.out, Hls4.out, Hb4.out, by omega, by omega, Hrun2.out⟩
        case measure => simp [intOf]; omega
      · obtain ⟨m, hm2⟩ : ∃ m, m = WS.length := ⟨_, rfl⟩
        have hm0 : m ≠ 0 := by rw [hm2]; exact fun h => hnil (List.eq_nil_of_length_eq_zero h)
        rw [← hm2]
        rw [← hm2] at hcw
        have t0 : ((m : Int) == 0) = false := by simp; exact hm0
        have Hm := Lib.hid hm2
        have Hrunf := Lib.hid (fun he : (Tx.change WS n).e ≠ 0 => show Tx.chRun n LS = ⟨P ++ [], i + 1, (Tx.change WS n).e⟩ by rw [Hrun.out, HRf.out hnil he])
        have Hruns := Lib.hid (fun he : (Tx.change WS n).e = 0 => show Tx.chRun n LS = ⟨(P ++ [Tx.change WS n]) ++ (Tx.chRun n (LS.drop (i + 1))).cs, (i + 1) + (Tx.chRun n (LS.drop (i + 1))).k, (Tx.chRun n (LS.drop (i + 1))).e⟩ by
          rw [Hrun.out, HRs.out hnil he, List.append_assoc]
          dsimp only
          congr 1
          omega)
        clear hm2 hnil HRb HRf HRs Hrun
        by_cases hm3 : m = 3
        · obtain ⟨x, y, z, rfl⟩ : ∃ x y z, WS = [x, y, z] := by
            match WS, (show WS.length = 3 by rw [← Hm.out]; exact hm3) with
            | [x, y, z], _ => exact ⟨x, y, z, rfl⟩
          obtain ⟨b0, off0, rfl, _, hc0⟩ := rd_ss Hrw.out (k := 0) (l := x) rfl
          obtain ⟨b1, off1, he, _, hc1⟩ := rd_ss Hrw.out (k := 1) (l := y) rfl
          injection he with he; injection he with e1 e2
          subst e1 e2
          obtain ⟨b1, off1, he, _, hc2⟩ := rd_ss Hrw.out (k := 2) (l := z) rfl
          injection he with he; injection he with e1 e2
          subst e1 e2
          rw [Nat.add_zero] at hc0
          have hc0' : w4.cell? ⟨b0, off0, none⟩ = some (.string (strOf x)) := hc0
          have heq1 := str_eq x [43#8]
          have heq2 := str_eq x [45#8]
          rw [show (strOf [43#8]).toList = [43] by rw [strOf_toList]; rfl] at heq1
          rw [show (strOf [45#8]).toList = [45] by rw [strOf_toList]; rfl] at heq2
          have t3 : ((m : Int) != 3) = false := by simp; omega
          have l0 : (0 : Int) < (m : Int) := by omega
          have l1 : (1 : Int) < (m : Int) := by omega
          have l2 : (2 : Int) < (m : Int) := by omega
          have Htw := Lib.hid (fun w' => twoR_calls y z n w' (Hwl.out y (by simp)) (Hwl.out z (by simp)))
          have Hch := Lib.hid (show Tx.change [x, y, z] n = if x = [43#8] ∨ x = [45#8] then ⟨(Tx.two y z n).1, (Tx.two y z n).2.1, decide (x = [45#8]), (Tx.two y z n).2.2⟩ else ⟨0, 0, false, 40⟩ from rfl)
          generalize Tx.two y z n = tw at *
          obtain ⟨u, v, e⟩ := tw
          dsimp only at Htw Hch
          clear hm3 hc0
          by_cases hpm : x = [43#8] ∨ x = [45#8]
          · have Hch2 := Lib.hid (show Tx.change [x, y, z] n = ⟨u, v, decide (x = [45#8]), e⟩ by rw [Hch.out, if_pos hpm])
            have h3 : ((strOf x).toList = [43] ∧ ((strOf x).toList == [43]) = true ∧ decide (x = [45#8]) = false ∧ ((strOf x).toList == [45]) = false) ∨ (¬ (strOf x).toList = [43] ∧ ((strOf x).toList == [43]) = false ∧ decide (x = [45#8]) = true ∧ ((strOf x).toList == [45]) = true) := by
              rcases hpm with h | h
              · left
                have hx : ¬ x = [45#8] := by rw [h]; decide
                rw [decide_eq_true h] at heq1
                rw [decide_eq_false hx] at heq2
                exact ⟨by simpa using heq1, heq1, decide_eq_false hx, heq2⟩
              · right
                have hx : ¬ x = [43#8] := by rw [h]; decide
                rw [decide_eq_false hx] at heq1
                rw [decide_eq_true h] at heq2
                exact ⟨by simpa using heq1, heq1, decide_eq_true h, heq2⟩
            clear heq1 heq2 hpm Hch
            generalize decide (x = [45#8]) = g at *
            have Hsx := Lib.hid (show SS x = .string (strOf x) from rfl)
            generalize strOf x = sx at *
            rcases h3 with ⟨s1, s2, rfl, s3⟩ | ⟨s1, s2, rfl, s3⟩
            · go_wp2_with fail
              go_big_quiet (first | (go_at_call 61; exact Calls.quiet_of_same ((Htw.out _).mono fun _ _ h => ⟨h.1, h.2.symm⟩)))
              have Hp5 := Lib.hid (own_drawN Hp4.out nq); have Hls5 := Lib.hid (own_drawN Hls4.out nq); have Hb5 := Lib.hid (below_drewN Hb4.out nq)
              have hd0 : (w4.drewN nq).cell? ⟨b0, off0, none⟩ = some (.string sx) := hc0'
              have hsz5 : w.heap.size ≤ (w4.drewN nq).heap.size := by show w.heap.size ≤ w4.heap.size; omega
              clear hc0' hc1 hc2 Hp4 Hls4 Hb4
              generalize w4.drewN nq = w5 at *
              by_cases he : e = 0
              · subst he
                have Hrun2 := Lib.hid (Hruns.out (by rw [Hch2.out]))
                rw [Hch2.out] at Hrun2
                clear Hch2 Hruns Hrunf
                have hb6 : Below w5.heap.size w5 (w5.alloc (.cells (chs [⟨u, v, false, 0⟩]).toArray 26)) := (Below.refl _ _).alloc (Nat.le_refl _) _
                have Hp6 := Lib.hid (own_below_s Hp5.out hb6 (Nat.le_refl _)); have Hls6 := Lib.hid (own_below Hls5.out hb6 (Nat.le_refl _)); have Hb6 := Lib.hid (Hb5.out.trans (hb6.mono (by omega)))
                have Hrd6 := Lib.hid (rd_new w5 (chs [⟨u, v, false, 0⟩]) _ 26 rfl)
                have hsb : w.heap.size ≤ (w5.alloc (.cells (chs [⟨u, v, false, 0⟩]).toArray 26)).heap.size := by simp; omega
                have hPb : P.length ≤ 4294960000 := by omega
                clear hb6
                go_wp2_with (at_builtin; refine wpList_append_rds rfl _ _ 22 rfl w.heap.size 26 i0 _ 3 24 descChs Hi.out hz0 hz1 hz2 rfl (by decide) _ P.length (chs P) rfl Hp6.out _ (some ⟨w5.heap.size, 0, none⟩) 1 1 (chs [⟨u, v, false, 0⟩]) rfl rfl (by intro h; cases h) Hrd6.out (chs_one _) (by unfold maxLen; omega) (by omega) hsb ?_; intro v9 w9 hown9 hg9; obtain ⟨A9, cap9, rfl⟩ := own_size hown9; have Hown9 := Lib.hid hown9; have Hg9 := Lib.hid (show World.grownBy _ w9 (Value.slice Ap P.length capp).ownBlock from hg9); clear hown9 hg9)
                go_roundw
                case rel =>
                  have hblk : ∀ x, x ∈ (Value.slice Ap P.length capp).ownBlock.toList → w.heap.size ≤ x := fun x hm => (own_blk Hp6.out (g := x) (by simpa using hm)).1
                  refine ⟨i + 1, P ++ [⟨u, v, false, 0⟩], by congr 1, ?_, ?_, Hb6.out.trans ((Keep.grown Hg9.out).below hsb hblk), by omega, by simp; omega, Hrun2.out⟩
                  · rw [List.length_append, chs_append]; exact Hown9.out
                  · exact own_keep Hls6.out (Keep.grown Hg9.out) (fun g hg2 hm => own_ne_own Hls6.out Hp6.out (by decide) g hg2 (by simpa using hm))
                case measure => simp [intOf]; omega
              · have hne : (e != 0) = true := by simpa using he
                have Hf := Lib.hid (Hrunf.out (by rw [Hch2.out]; exact he))
                rw [Hch2.out] at Hf
                have He := Lib.hid he
                clear he Hch2 Hruns Hrunf
                go_wp2_with fail
                go_ret3
                unfold ChangesSaid
                rw [Hl.out.1, Hl.out.2.1, Hl.out.2.2, Hf.out]
                unfold Tx.CRun.out Tx.CRun.line
                dsimp only
                rw [if_neg He.out, if_neg He.out]
                exact ⟨none, 0, rfl, World.ownsRow_nil _ _ _ _, Hb5.out⟩
            · go_wp2_with fail
              go_big_quiet (first | (go_at_call 61; exact Calls.quiet_of_same ((Htw.out _).mono fun _ _ h => ⟨h.1, h.2.symm⟩)))
              have Hp5 := Lib.hid (own_drawN Hp4.out nq); have Hls5 := Lib.hid (own_drawN Hls4.out nq); have Hb5 := Lib.hid (below_drewN Hb4.out nq)
              have hd0 : (w4.drewN nq).cell? ⟨b0, off0, none⟩ = some (.string sx) := hc0'
              have hsz5 : w.heap.size ≤ (w4.drewN nq).heap.size := by show w.heap.size ≤ w4.heap.size; omega
              clear hc0' hc1 hc2 Hp4 Hls4 Hb4
              generalize w4.drewN nq = w5 at *
              by_cases he : e = 0
              · subst he
                have Hrun2 := Lib.hid (Hruns.out (by rw [Hch2.out]))
                rw [Hch2.out] at Hrun2
                clear Hch2 Hruns Hrunf
                have hb6 : Below w5.heap.size w5 (w5.alloc (.cells (chs [⟨u, v, true, 0⟩]).toArray 26)) := (Below.refl _ _).alloc (Nat.le_refl _) _
                have Hp6 := Lib.hid (own_below_s Hp5.out hb6 (Nat.le_refl _)); have Hls6 := Lib.hid (own_below Hls5.out hb6 (Nat.le_refl _)); have Hb6 := Lib.hid (Hb5.out.trans (hb6.mono (by omega)))
                have Hrd6 := Lib.hid (rd_new w5 (chs [⟨u, v, true, 0⟩]) _ 26 rfl)
                have hsb : w.heap.size ≤ (w5.alloc (.cells (chs [⟨u, v, true, 0⟩]).toArray 26)).heap.size := by simp; omega
                have hPb : P.length ≤ 4294960000 := by omega
                clear hb6
                go_wp2_with (at_builtin; refine wpList_append_rds rfl _ _ 22 rfl w.heap.size 26 i0 _ 3 24 descChs Hi.out hz0 hz1 hz2 rfl (by decide) _ P.length (chs P) rfl Hp6.out _ (some ⟨w5.heap.size, 0, none⟩) 1 1 (chs [⟨u, v, true, 0⟩]) rfl rfl (by intro h; cases h) Hrd6.out (chs_one _) (by unfold maxLen; omega) (by omega) hsb ?_; intro v9 w9 hown9 hg9; obtain ⟨A9, cap9, rfl⟩ := own_size hown9; have Hown9 := Lib.hid hown9; have Hg9 := Lib.hid (show World.grownBy _ w9 (Value.slice Ap P.length capp).ownBlock from hg9); clear hown9 hg9)
                go_roundw
                case rel =>
                  have hblk : ∀ x, x ∈ (Value.slice Ap P.length capp).ownBlock.toList → w.heap.size ≤ x := fun x hm => (own_blk Hp6.out (g := x) (by simpa using hm)).1
                  refine ⟨i + 1, P ++ [⟨u, v, true, 0⟩], by congr 1, ?_, ?_, Hb6.out.trans ((Keep.grown Hg9.out).below hsb hblk), by omega, by simp; omega, Hrun2.out⟩
                  · rw [List.length_append, chs_append]; exact Hown9.out
                  · exact own_keep Hls6.out (Keep.grown Hg9.out) (fun g hg2 hm => own_ne_own Hls6.out Hp6.out (by decide) g hg2 (by simpa using hm))
                case measure => simp [intOf]; omega
              · have hne : (e != 0) = true := by simpa using he
                have Hf := Lib.hid (Hrunf.out (by rw [Hch2.out]; exact he))
                rw [Hch2.out] at Hf
                have He := Lib.hid he
                clear he Hch2 Hruns Hrunf
                go_wp2_with fail
                go_ret3
                unfold ChangesSaid
                rw [Hl.out.1, Hl.out.2.1, Hl.out.2.2, Hf.out]
                unfold Tx.CRun.out Tx.CRun.line
                dsimp only
                rw [if_neg He.out, if_neg He.out]
                exact ⟨none, 0, rfl, World.ownsRow_nil _ _ _ _, Hb5.out⟩
          · have Hch2 := Lib.hid (show Tx.change [x, y, z] n = ⟨0, 0, false, 40⟩ by rw [Hch.out, if_neg hpm])
            have Hf := Lib.hid (Hrunf.out (by rw [Hch2.out]; simp))
            rw [Hch2.out] at Hf
            have h43 : ¬ x = [43#8] := fun h => hpm (Or.inl h)
            have h45 : ¬ x = [45#8] := fun h => hpm (Or.inr h)
            rw [decide_eq_false h43] at heq1
            rw [decide_eq_false h45] at heq2
            have s1 : ¬ (strOf x).toList = [43] := by simpa using heq1
            have s2 : ¬ (strOf x).toList = [45] := by simpa using heq2
            clear hpm h43 h45 Hch
            generalize strOf x = sx at *
            go_wp2_with fail
            go_ret3
            unfold ChangesSaid
            rw [Hl.out.1, Hl.out.2.1, Hl.out.2.2, Hf.out]
            exact ⟨none, 0, rfl, World.ownsRow_nil _ _ _ _, Hb4.out⟩
        · have t3 : ((m : Int) != 3) = true := by simp; omega
          have Hch2 := Lib.hid (Tx.change_not3 n WS (by rw [← Hm.out]; exact hm3))
          have Hf := Lib.hid (Hrunf.out (by rw [Hch2.out]; simp))
          rw [Hch2.out] at Hf
          clear hm3
          go_wp2_with fail
          go_ret3
          unfold ChangesSaid
          rw [Hl.out.1, Hl.out.2.1, Hl.out.2.2, Hf.out]
          exact ⟨none, 0, rfl, World.ownsRow_nil _ _ _ _, Hb4.out⟩
    · obtain rfl : i = k := by omega
      have Hf := Lib.hid (show Tx.chRun n LS = ⟨P, i, 0⟩ by rw [Hrun.out, List.drop_eq_nil_of_le (by rw [← Hk.out]; exact Nat.le_refl _)]; simp [Tx.chRun])
      go_wp2_with fail
      go_ret3
      unfold ChangesSaid
      rw [Hl.out.1, Hl.out.2.1, Hl.out.2.2, Hf.out]
      exact ⟨Ap, capp, rfl, Hp.out, Hbr.out⟩
end Go.Proofs.YtgoobadkbndfgaaDoor
