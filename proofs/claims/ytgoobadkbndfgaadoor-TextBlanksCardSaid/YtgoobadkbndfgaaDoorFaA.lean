/- spoken -/
import Derived.Test.YtgoobadkbndfgaaDoorFaM
import Derived.Test.YtgoobadkbndfgaaDoorRfE
import Derived.Deep.DeepCutAuto
namespace Go.Proofs.YtgoobadkbndfgaaDoor
open Go.RowKit
set_option linter.unusedSimpArgs false
set_option linter.unusedVariables false
set_option maxHeartbeats 4000000 in
set_option maxRecDepth 20000 in
theorem spoken_calls (A : Option Addr) (n cap B : Nat) (bs : List (BitVec 8)) (line : Int) (w : World) (hn : n = bs.length) (hm : n ≤ 274877906944) (hcap : n ≤ cap) (hcm : cap ≤ maxLen) (hnil : A = none → n = 0 ∧ cap = 0) (hB : B ≤ w.heap.size) (hr : Rd w B A (bs.map V8)) :
    Calls Tryd.prog 34 #[.slice A n cap, .int .i64 line] w fun e w' => e = .returned (.int .i64 (Tx.spokenN (Tx.lines bs) line.toNat : Nat)) ∧ Below w.heap.size w w' := by
  have hll := Tx.lines_length _ bs (Nat.le_refl _)
  rw [← hn] at hll
  have Hline := Lib.hid (fun l (hl : l ∈ Tx.lines bs) => Tx.line_length _ bs (Nat.le_refl _) l hl)
  have Hlines := Lib.hid (Lines_calls A n cap B bs w hn (by omega) hcap (by unfold maxLen at hcm; omega) hnil hB hr)
  have Hbl := Lib.hid (show bs.length ≤ 274877906944 by omega)
  obtain ⟨LS, hLS⟩ : ∃ x, x = Tx.lines bs := ⟨_, rfl⟩
  rw [← hLS] at hll Hline Hlines ⊢
  clear hn hnil hr hLS
  go_enter Tryd.func34, Tryd.ntmps34
  go_wp2_with fail
  refine (Hlines.out).mono ?_
  rintro en w3 ⟨Al, capl, rfl, hown3, hb3⟩
  have hcl := own_cap hown3
  obtain ⟨k, hk⟩ : ∃ x, x = LS.length := ⟨_, rfl⟩
  rw [← hk] at hll hcl
  have hown3' : w3.ownsRow w.heap.size 9 1 (.slice Al k capl) k (LS.map SS) := by rw [hk]; exact hown3
  rw [← hk]
  have Hk := Lib.hid hk
  obtain ⟨hcl1, hcl2⟩ := hcl
  have Hown3 := Lib.hid hown3'; have Hb3 := Lib.hid hb3
  clear hown3 hown3' hb3 hk Hlines
  go_wp2_with fail
  go_loopw [6, 7] (fun v iv wr => ∃ (i : Nat), iv = .int .i64 (i : Int) ∧ v = .int .i64 (Tx.spokenN LS i : Nat) ∧ wr.ownsRow w.heap.size 9 1 (.slice Al k capl) k (LS.map SS) ∧ Below w.heap.size w wr ∧ i ≤ k ∧ (i ≤ line.toNat)) (fun _ iv _ => k - (intOf iv).toNat)
  case atStart => exact ⟨0, rfl, rfl, Hown3.out, Hb3.out, by omega, by omega⟩
  case round =>
    obtain ⟨i, rfl, rfl, hl2, hbr, hik, hil⟩ := hrel
    have hszr := hbr.size
    have Hls := Lib.hid hl2; have Hbr := Lib.hid hbr
    have hsp := Tx.spokenN_le LS i
    clear hl2 hbr
    by_cases hlt : i < k ∧ (i : Int) < line
    · obtain ⟨hlt, q2⟩ := hlt
      have q1 : (i : Int) < (k : Int) := by omega
      obtain ⟨l, hl⟩ : ∃ c, LS[i]? = some c := ⟨LS[i]'(by rw [← Hk.out]; omega), List.getElem?_eq_getElem _⟩
      obtain ⟨bb, off, rfl, hbb, hcell⟩ := rd_ss (own_rd Hls.out) hl
      have hlm := Hline.out l (List.mem_of_getElem? hl)
      have hll2 : l.length ≤ 1099511627776 := by have := Hbl.out; omega
      have Hst := Lib.hid (Tx.spokenN_succ hl)
      have hwd := Words_calls l wr hll2
      have hsc := Tx.sS_count l none 0
      have hwl : (Tx.words l).length ≤ l.length + 1 := by unfold Tx.words Tx.spans; rw [List.length_map]; exact hsc
      obtain ⟨WS, hWS⟩ : ∃ x, x = Tx.words l := ⟨_, rfl⟩
      rw [← hWS] at hwd Hst hwl
      generalize Tx.spokenN LS i = S at *
      have Hwd := Lib.hid hwd
      clear hl hlm hwd hWS hsc
      go_wp2_with fail
      refine (Hwd.out).mono ?_
      rintro en w4 ⟨Aw, capw, rfl, hown4, hb4⟩
      have Hls4 := Lib.hid (own_below Hls.out hb4 (Nat.le_refl _)); have Hb4 := Lib.hid (Hbr.out.trans (hb4.mono hszr))
      clear hown4 hb4 Hls Hbr hcell Hwd
      by_cases hnil : WS = []
      · subst hnil
        go_wp2_with fail
        go_roundw
        case rel => exact ⟨i + 1, by congr 1, by rw [Hst.out]; simp, Hls4.out, Hb4.out, by omega, by omega⟩
        case measure => simp [intOf]; omega
      · obtain ⟨m, hm2⟩ : ∃ m, m = WS.length := ⟨_, rfl⟩
        have hm0 : m ≠ 0 := by rw [hm2]; exact fun h => hnil (List.eq_nil_of_length_eq_zero h)
        rw [← hm2] at hwl ⊢
        have t0 : (0 : Int) < (m : Int) := by omega
        have Hnil2 := Lib.hid hnil
        clear hm2 hnil
        go_wp2_with fail
        go_roundw
        case rel => exact ⟨i + 1, by congr 1, by rw [Hst.out, if_pos Hnil2.out]; congr 1, Hls4.out, Hb4.out, by omega, by omega⟩
        case measure => simp [intOf]; omega
    · have Hfin := Lib.hid (show Tx.spokenN LS line.toNat = Tx.spokenN LS i by
        by_cases h : i < k
        · have : line.toNat = i := by omega
          rw [this]
        · have hik2 : i = k := by omega
          rw [Tx.spokenN_ge (show LS.length ≤ line.toNat by rw [← Hk.out]; omega), hik2, Hk.out])
      have hs : ¬ (i : Int) < (k : Int) ∨ ((i : Int) < (k : Int) ∧ ¬ (i : Int) < line) := by
        by_cases h : i < k
        · right; exact ⟨by omega, fun h2 => hlt ⟨h, h2⟩⟩
        · left; omega
      clear hlt
      rcases hs with q1 | ⟨q1, q2⟩
      all_goals
        go_wp2_with fail
        go_ret
        rw [Hfin.out]
        exact ⟨rfl, Hbr.out⟩
end Go.Proofs.YtgoobadkbndfgaaDoor
