/- the reference's Print -/
import Derived.Test.YtgoobadkbndfgaaDoorMrk
import Derived.Test.YtgoobadkbndfgaaDoorTxAa
import Derived.Deep.RegionHeld3
namespace Go.Proofs.YtgoobadkbndfgaaDoor
open Go.RowKit
set_option linter.unusedSimpArgs false
set_option linter.unusedVariables false
namespace Tx
theorem rowF_pair10 (bs : List By) (u v : Int) (h : bs.getLast? = some 10#8) : rowF bs [u, v] = bs ++ (digs u ++ [32#8] ++ digs v ++ [10#8]) := by
  unfold rowF rowF rowF
  have h0 : sepF bs = bs := by unfold sepF; rw [h]; dsimp only; rw [if_pos (by decide)]
  rw [h0, sepF_digs]
  simp [List.append_assoc]
theorem rowF_ends10 : ∀ (zs : List Int) (bs : List By), (rowF bs zs).getLast? = some 10#8
  | [], bs => by unfold rowF; simp
  | z :: zs, bs => by unfold rowF; exact rowF_ends10 zs _
end Tx
theorem str_add_any (x y : ByteArray) (a b : List (BitVec 8)) (hx : x = strOf a) (hy : y = strOf b) (ha : a.length ≤ 1000) (hb : b.length ≤ 1000) (w : World) : (Op.stringOp .add x y).run Tryd.prog w = .ok (.string (strOf (a ++ b))) w := str_add x y a b hx hy ha hb w
/-- What the reference's Print answers. -/
def PrintSaidR (R : List (BitVec 8) × Int) (w : World) (en : Ending) (w' : World) : Prop :=
  ∃ A' cap', en = .returned (.tuple #[.slice A' R.1.length cap', .int .i64 R.2]) ∧ (A' = none → R.1.length = 0) ∧ Rd w' w'.heap.size A' (R.1.map V8) ∧ Below w.heap.size w w'
set_option maxHeartbeats 8000000 in
set_option maxRecDepth 20000 in
theorem rPrint_calls (n : Int) (A : Option Addr) (k cap B : Nat) (ps : List (Int × Int)) (w : World) (hn0 : -9223372036854775808 ≤ n) (hn1 : n ≤ 9223372036854775807) (hk : k = ps.length) (hk2 : k ≤ 100000) (hB : B ≤ w.heap.size) (hr : Rd w B A (pcs ps))
    (hps : ∀ p ∈ ps, (-9223372036854775808 ≤ p.1 ∧ p.1 ≤ 9223372036854775807) ∧ -9223372036854775808 ≤ p.2 ∧ p.2 ≤ 9223372036854775807) (ht : Pow w.heap.size w) :
    Calls Tryd.prog 38 #[.int .i64 n, .slice A k cap] w (PrintSaidR (Tx.printF n ps) w) := by
  obtain ⟨i8, h8, h80, h81, h82⟩ := info_parts infoU8
  have H8 := Lib.hid h8
  have Hk := Lib.hid hk; have Hr := Lib.hid hr; have Ht := Lib.hid ht; have Hps := Lib.hid hps
  clear hk hr ht hps h8
  by_cases hbad : n < 0 ∨ 16777216 < n
  · have Hf := Lib.hid (show Tx.printF n ps = ([], 41) by unfold Tx.printF; rw [if_pos hbad])
    go_enter Tryd.func38, Tryd.ntmps38
    have hs : n < 0 ∨ (¬ n < 0 ∧ 16777216 < n) := by omega
    clear hbad
    rcases hs with h | ⟨h, h'⟩
    all_goals
      go_wp2_with fail
      go_ret2
      unfold PrintSaidR
      rw [Hf.out]
      exact ⟨none, 0, rfl, fun _ => rfl, Rd.nil _ _ _, Below.refl _ _⟩
  · have hg1 : ¬ n < 0 := by omega
    have hg2 : ¬ 16777216 < n := by omega
    have Hpf := Lib.hid (show Tx.printF n ps = Tx.prF n (Tx.rowF Tx.vertices [n]) ps by unfold Tx.printF; rw [if_neg hbad])
    have Hrf := Lib.hid (Tx.rowF_first n)
    have hdn := Tx.digs_length n
    have hln := Lib.itoa_length_le n hn0 hn1
    obtain ⟨SN, hSN⟩ : ∃ x, x = strOf (Tx.digs n) := ⟨_, rfl⟩
    obtain ⟨S1, hS1⟩ : ∃ x, x = strOf (Tx.vertices ++ [32#8] ++ Tx.digs n) := ⟨_, rfl⟩
    obtain ⟨S2, hS2⟩ : ∃ x, x = strOf (Tx.vertices ++ [32#8] ++ Tx.digs n ++ [10#8]) := ⟨_, rfl⟩
    have hvl : Tx.vertices.length = 8 := rfl
    have f1 : ∀ w, (Op.stringOp .add ⟨#[118, 101, 114, 116, 105, 99, 101, 115, 32]⟩ SN).run Tryd.prog w = .ok (.string S1) w := fun w => by
      rw [hSN, hS1]; exact str_add _ _ (Tx.vertices ++ [32#8]) (Tx.digs n) (by kernel_rfl) rfl (by simp [hvl]) (by omega) w
    have f2 : ∀ w, (Op.stringOp .add S1 ⟨#[10]⟩).run Tryd.prog w = .ok (.string S2) w := fun w => by
      rw [hS1, hS2]; exact str_add _ _ (Tx.vertices ++ [32#8] ++ Tx.digs n) [10#8] rfl (by kernel_rfl) (by simp [hvl]; omega) (by simp) w
    have Hin := Lib.hid (show Calls Tryd.prog 44 #[.int .i64 n] w fun e w' => e = .returned (.string SN) ∧ Below w.heap.size w w' by have := itoa_calls w.heap.size n w hn0 hn1 Ht.out; rw [← hSN] at this; exact this)
    have hs2 : S2.size = 10 + (Tx.digs n).length := by rw [hS2, strOf_size]; simp [hvl]; omega
    have HS2 := Lib.hid hS2
    have hs2b : S2.size ≤ 100 := by omega
    have Hcv := Lib.hid (fun w' : World => Lib.run_convert_string_bytes (P := Tryd.prog) w' 9 27 5 S2 descStr descU8s descU8)
    clear hSN hS1 hS2 hdn hln hvl hs2 hbad
    go_enter Tryd.func38, Tryd.ntmps38
    go_wp2_with fail
    refine (Hin.out).mono ?_
    rintro en w1 ⟨rfl, hb1⟩
    have hz1 := hb1.size
    have hco := conv_own w1 S2 5 (by unfold maxLen; omega)
    have hcb := conv_below w1 S2 5
    have hcv := Hcv.out w1
    generalize Lib.bytesWorld w1 5 S2 = w2 at *
    generalize grownCap w1 S2.size 0 5 = cap2 at *
    have Hco := Lib.hid hco; have Hb2 := Lib.hid (hb1.trans (hcb.mono hz1))
    clear hco hcb hb1
    go_wp2_with fail
    have hrl : (Tx.rowF Tx.vertices [n]).length = S2.size := by rw [Hrf.out, HS2.out, strOf_size]
    have hor : ∃ v, v = Value.slice (some ⟨w1.heap.size, 0, none⟩) S2.size cap2 ∧ OwnM w2 w.heap.size v (Tx.rowF Tx.vertices [n]).length ((Tx.rowF Tx.vertices [n]).map V8) := by
      refine ⟨_, rfl, ?_⟩
      have h1 := Hco.out
      obtain ⟨g, c, hv, h0, hrest⟩ := h1
      have e : Lib.strCells S2 = (Tx.rowF Tx.vertices [n]).map V8 := by rw [HS2.out, strCells_of, Hrf.out]
      rw [e] at hrest
      rw [hrl]
      exact ⟨g, c, hv, by omega, hrest⟩
    obtain ⟨v0, hv0, hov0⟩ := hor
    have hrlb : (Tx.rowF Tx.vertices [n]).length ≤ 100 := by omega
    have Hlast := Lib.hid (Tx.rowF_ends10 [n] Tx.vertices)
    obtain ⟨c0, hc0⟩ : ∃ c, c = Tx.rowF Tx.vertices [n] := ⟨_, rfl⟩
    rw [← hc0] at hov0 hrlb Hlast Hpf
    have Hov0 := Lib.hid hov0
    rw [← hv0]
    clear hov0 hrl hc0 hv0 hcv Hco f1 f2
    go_loopw [7, 8] (fun v iv wr => ∃ (a : Nat) (bs : List (BitVec 8)), iv = .int .i64 (a : Int) ∧ OwnM wr w.heap.size v bs.length (bs.map V8) ∧ bs.getLast? = some 10#8 ∧ Below w.heap.size w wr ∧ a ≤ k ∧ bs.length ≤ 100 + 45 * a ∧ Tx.printF n ps = Tx.prF n bs (ps.drop a)) (fun _ iv _ => k - (intOf iv).toNat)
    case atStart => exact ⟨0, c0, rfl, Hov0.out, Hlast.out, Hb2.out, by omega, by omega, by rw [List.drop_zero]; exact Hpf.out⟩
    case round =>
      obtain ⟨a, bs, rfl, hown, hlast, hbr, ha, hbl, hrun⟩ := hrel
      obtain ⟨A1, cap1, rfl⟩ := hown.form
      have Hown := Lib.hid hown; have Hbr := Lib.hid hbr; have Hrun := Lib.hid hrun; have Hlast2 := Lib.hid hlast
      have hszr := hbr.size
      clear hown hbr hrun hlast
      by_cases hlt : a < k
      · have q1 : (a : Int) < (k : Int) := by omega
        obtain ⟨⟨u, v⟩, hp⟩ : ∃ p, ps[a]? = some p := ⟨ps[a]'(by rw [← Hk.out]; omega), List.getElem?_eq_getElem _⟩
        obtain ⟨bb, off, rfl, hbb, hc1, hc2⟩ := rd_pair (Hr.out.below Hbr.out hB) hp
        dsimp only at hc1 hc2
        have hpm := Hps.out _ (List.mem_of_getElem? hp)
        have hdrop : ps.drop a = (u, v) :: ps.drop (a + 1) := by
          rw [List.drop_eq_getElem_cons (by rw [← Hk.out]; omega)]; congr 1
          exact (List.getElem?_eq_some_iff.1 hp).2
        have Hrun1 := Lib.hid (show Tx.printF n ps = if Tx.badP n (u, v) then ([], 42) else Tx.prF n (Tx.rowF bs [u, v]) (ps.drop (a + 1)) by rw [Hrun.out, hdrop]; rfl)
        have Hpm := Lib.hid hpm
        clear hp hdrop hpm
        go_upto_region 9 with fail
        have hpa : PaIs (wr.alloc (.cells #[.int .i64 u, .int .i64 v] 76)) wr.heap.size (u, v) := heap_alloc_new _ _
        have hb2 : Below wr.heap.size wr (wr.alloc (.cells #[.int .i64 u, .int .i64 v] 76)) := (Below.refl _ _).alloc (Nat.le_refl _) _
        have Hown2 := Lib.hid (Hown.out.below hb2)
        have Hbr2 := Lib.hid (Hbr.out.trans (hb2.mono hszr))
        have hz2 : (wr.alloc (.cells #[.int .i64 u, .int .i64 v] 76)).heap.size ≥ wr.heap.size + 1 := by simp
        clear hb2 hc1 hc2 Hown Hbr
        generalize wr.alloc (.cells #[.int .i64 u, .int .i64 v] 76) = w3 at *
        have p0 := hpa.c0; have p1 := hpa.c1
        dsimp only at p0 p1
        go_cut [51] (fun s w' => s = .bool (decide (Tx.badP n (u, v))) ∧ w3 = w')
        case first =>
          by_cases h1 : u < 0
          · go_wp2_with fail
            go_meet
            exact ⟨by rw [decide_eq_true (show Tx.badP n (u, v) by unfold Tx.badP; dsimp only; omega)], rfl⟩
          · by_cases h2 : n ≤ u
            · go_wp2_with fail
              go_meet
              exact ⟨by rw [decide_eq_true (show Tx.badP n (u, v) by unfold Tx.badP; dsimp only; omega)], rfl⟩
            · by_cases h3 : v < 0
              · go_wp2_with fail
                go_meet
                exact ⟨by rw [decide_eq_true (show Tx.badP n (u, v) by unfold Tx.badP; dsimp only; omega)], rfl⟩
              · by_cases h4 : n ≤ v
                · go_wp2_with fail
                  go_meet
                  exact ⟨by rw [decide_eq_true (show Tx.badP n (u, v) by unfold Tx.badP; dsimp only; omega)], rfl⟩
                · go_wp2_with fail
                  go_meet
                  exact ⟨by rw [decide_eq_false (show ¬ Tx.badP n (u, v) by unfold Tx.badP; dsimp only; omega)], rfl⟩
        case rest =>
          obtain ⟨rfl, rfl⟩ := hcut
          by_cases hbd : Tx.badP n (u, v)
          · rw [decide_eq_true hbd]
            have Hfin := Lib.hid (show Tx.printF n ps = ([], 42) by rw [Hrun1.out, if_pos hbd])
            clear hbd
            go_wp2_with fail
            go_ret2
            unfold PrintSaidR
            rw [Hfin.out]
            exact ⟨none, 0, rfl, fun _ => rfl, Rd.nil _ _ _, Hbr2.out⟩
          · rw [decide_eq_false hbd]
            have Hrun2 := Lib.hid (show Tx.printF n ps = Tx.prF n (Tx.rowF bs [u, v]) (ps.drop (a + 1)) by rw [Hrun1.out, if_neg hbd])
            have hpm := Hpm.out
            dsimp only at hpm
            clear hbd
            have hdu := Tx.digs_length u; have hdv := Tx.digs_length v
            have hlu := Lib.itoa_length_le u hpm.1.1 hpm.1.2; have hlv := Lib.itoa_length_le v hpm.2.1 hpm.2.2
            obtain ⟨SU, hSU⟩ : ∃ x, x = strOf (Tx.digs u) := ⟨_, rfl⟩
            obtain ⟨SV, hSV⟩ : ∃ x, x = strOf (Tx.digs v) := ⟨_, rfl⟩
            obtain ⟨S1, hS1⟩ : ∃ x, x = strOf (Tx.digs u ++ [32#8]) := ⟨_, rfl⟩
            obtain ⟨S3, hS3⟩ : ∃ x, x = strOf (Tx.digs u ++ [32#8] ++ Tx.digs v) := ⟨_, rfl⟩
            obtain ⟨S4, hS4⟩ : ∃ x, x = strOf (Tx.digs u ++ [32#8] ++ Tx.digs v ++ [10#8]) := ⟨_, rfl⟩
            have f1 : ∀ w, (Op.stringOp .add SU ⟨#[32]⟩).run Tryd.prog w = .ok (.string S1) w := fun w => by
              rw [hSU, hS1]; exact str_add _ _ (Tx.digs u) [32#8] rfl (by kernel_rfl) (by omega) (by simp) w
            have f2 : ∀ w, (Op.stringOp .add S1 SV).run Tryd.prog w = .ok (.string S3) w := fun w => by
              rw [hS1, hS3, hSV]; exact str_add _ _ (Tx.digs u ++ [32#8]) (Tx.digs v) rfl rfl (by simp; omega) (by omega) w
            have f3 : ∀ w, (Op.stringOp .add S3 ⟨#[10]⟩).run Tryd.prog w = .ok (.string S4) w := fun w => by
              rw [hS3, hS4]; exact str_add _ _ (Tx.digs u ++ [32#8] ++ Tx.digs v) [10#8] rfl (by kernel_rfl) (by simp; omega) (by simp) w
            have Hiu := Lib.hid (fun w' (ht : Pow w.heap.size w') => by have := itoa_calls w.heap.size u w' hpm.1.1 hpm.1.2 ht; rw [← hSU] at this; exact this)
            have Hiv := Lib.hid (fun w' (ht : Pow w.heap.size w') => by have := itoa_calls w.heap.size v w' hpm.2.1 hpm.2.2 ht; rw [← hSV] at this; exact this)
            have HS4 := Lib.hid hS4
            clear hSU hSV hS1 hS3 hS4
            clear hdu hdv hlu hlv
            go_upto_region 11 with fail
            have hst : (w3.cell? ⟨wr.heap.size, 0, none⟩ = some (.int .i64 u) ∧ w3.cell? ⟨wr.heap.size, 1, none⟩ = some (.int .i64 v)) ∧ wr.heap.size < w3.heap.size ∧ Below w3.heap.size w3 w3 := ⟨⟨p0, p1⟩, by omega, Below.refl _ _⟩
            go_cut [6] (fun s w' => s = .string S4 ∧ Below w3.heap.size w3 w')
            case first =>
              go_region_held3 (fun w' => (w'.cell? ⟨wr.heap.size, 0, none⟩ = some (.int .i64 u) ∧ w'.cell? ⟨wr.heap.size, 1, none⟩ = some (.int .i64 v)) ∧ wr.heap.size < w3.heap.size ∧ Below w3.heap.size w3 w')
                ((rename (_ ∧ _) ∧ _ ∧ Below _ _ _ => hS; first
                  | exact hS
                  | exact pa_keep hS (Below.refl _ _).drew
                  | exact pa_keep hS (Below.mono (by assumption) hS.2.2.size)))
                ((first
                  | (go_at_call 44; rename (_ ∧ _) ∧ _ ∧ Below _ _ _ => hS; refine (Hiu.out _ ((Ht.out.on Hbr2.out).on (hS.2.2.mono (by have := Hbr2.out.size; omega)))).mono ?_; rintro e w' ⟨rfl, hb⟩)
                  | (go_at_call 44; rename (_ ∧ _) ∧ _ ∧ Below _ _ _ => hS; refine (Hiv.out _ ((Ht.out.on Hbr2.out).on (hS.2.2.mono (by have := Hbr2.out.size; omega)))).mono ?_; rintro e w' ⟨rfl, hb⟩)))
              all_goals (rename (_ ∧ _) ∧ _ ∧ Below _ _ _ => hS; have HS := Lib.hid hS; clear hS)
              all_goals (go_wp2_with fail; go_meet; exact ⟨rfl, HS.out.2.2⟩)
            case rest =>
              obtain ⟨rfl, hbc⟩ := hcut
              have hzc := hbc.size
              have Hoc := Lib.hid (Hown2.out.below hbc)
              have Hbc := Lib.hid (Hbr2.out.trans (hbc.mono (by have := Hbr2.out.size; omega)))
              have hsz4 : S4.size ≤ 45 := by
                rw [HS4.out, strOf_size]
                have hlu := Lib.itoa_length_le u hpm.1.1 hpm.1.2; have hlv := Lib.itoa_length_le v hpm.2.1 hpm.2.2
                rw [← Tx.digs_length] at hlu hlv
                simp; omega
              have hsb : w.heap.size ≤ wc.heap.size := Hbc.out.size
              clear hbc hst f1 f2 f3
              go_wp2_with (at_builtin; refine wpList_app_str rfl _ _ 27 9 rfl w.heap.size 5 i8 descU8s descStr H8.out h80 h81 h82 _ bs.length (bs.map V8) rfl Hoc.out S4 rfl (by omega) hsb ?_; intro v9 w9 hown9 hg9; have Hown9 := Lib.hid hown9; have Hg9 := Lib.hid hg9; clear hown9 hg9)
              go_roundw
              case rel =>
                have hrf := Tx.rowF_pair10 bs u v Hlast2.out
                have ho := Hown9.out
                rw [HS4.out, strCells_of, strOf_size, ← List.map_append, ← List.length_append, ← hrf] at ho
                have hlen : (Tx.rowF bs [u, v]).length = bs.length + S4.size := by rw [hrf, List.length_append, HS4.out, strOf_size]
                exact ⟨a + 1, Tx.rowF bs [u, v], by congr 1, ho, Tx.rowF_ends10 _ _, Hbc.out.trans Hg9.out, by omega, by omega, Hrun2.out⟩
              case measure => simp [intOf]; omega
      · have hae : a = k := by omega
        subst hae
        have Hfin := Lib.hid (show Tx.printF n ps = (bs, 0) by rw [Hrun.out, List.drop_eq_nil_of_le (by rw [← Hk.out]; exact Nat.le_refl _)]; rfl)
        go_wp2_with fail
        go_ret2
        unfold PrintSaidR
        rw [Hfin.out]
        have hrd := Hown.out.rd
        exact ⟨_, _, rfl, fun h => absurd h hrd.2.2.2, hrd.1, Hbr.out⟩
end Go.Proofs.YtgoobadkbndfgaaDoor
