/- text.Print -/
import Derived.Test.YtmeoafodcniliaaGreatDoorTxP
import Derived.Deep.DeepCutAuto
namespace Go.Proofs.YtmeoafodcniliaaGreatDoor.C4
open Go.RowKit
set_option linter.unusedSimpArgs false
set_option linter.unusedVariables false
namespace Tx
def badP (n : Int) (p : Int × Int) : Prop := p.1 < 0 ∨ p.2 < 0 ∨ n ≤ p.1 ∨ n ≤ p.2
instance (n : Int) (p : Int × Int) : Decidable (badP n p) := by unfold badP; infer_instance
def prF (n : Int) : List By → List (Int × Int) → List By × Int
  | bs, [] => (bs, 0)
  | bs, p :: ps => if badP n p then ([], 42) else prF n (rowF bs [p.1, p.2]) ps
def printF (n : Int) (ps : List (Int × Int)) : List By × Int := if n < 0 ∨ 16777216 < n then ([], 41) else prF n (rowF vertices [n]) ps
theorem rowF2_length (bs : List By) (u v : Int) (hu : (Lib.itoa u).length ≤ 21) (hv : (Lib.itoa v).length ≤ 21) : (rowF bs [u, v]).length ≤ bs.length + 45 := by
  unfold rowF rowF rowF
  have h1 := sepF_length bs
  have h2 := sepF_length (sepF bs ++ digs u)
  rw [List.length_append, digs_length] at h2
  rw [List.length_append, List.length_append, digs_length]
  simp; omega
end Tx
/-- What Print answers. -/
def PrintSaid (R : List (BitVec 8) × Int) (w : World) (en : Ending) (w' : World) : Prop :=
  ∃ A cap, en = .returned (.tuple #[.slice A R.1.length cap, .int .i64 R.2]) ∧ w'.ownsRow w.heap.size 5 1 (.slice A R.1.length cap) R.1.length (R.1.map V8) ∧ Below w.heap.size w w'
set_option maxHeartbeats 8000000 in
set_option maxRecDepth 20000 in
theorem Print_calls (n : Int) (A : Option Addr) (k cap B : Nat) (ps : List (Int × Int)) (w : World) (hn0 : -9223372036854775808 ≤ n) (hn1 : n ≤ 9223372036854775807) (hk : k = ps.length) (hk2 : k ≤ 100000) (hB : B ≤ w.heap.size) (hr : Rd w B A (pcs ps))
    (hps : ∀ p ∈ ps, (-9223372036854775808 ≤ p.1 ∧ p.1 ≤ 9223372036854775807) ∧ -9223372036854775808 ≤ p.2 ∧ p.2 ≤ 9223372036854775807) (ht : Pow w.heap.size w) :
    Calls Tryz.prog 14 #[.int .i64 n, .slice A k cap] w (PrintSaid (Tx.printF n ps) w) := by
  have Hk := Lib.hid hk; have Hr := Lib.hid hr; have Ht := Lib.hid ht; have Hps := Lib.hid hps
  clear hk hr ht hps
  go_enter Tryz.func14, Tryz.ntmps14
  by_cases hbad : n < 0 ∨ 16777216 < n
  · have HR := Lib.hid (show Tx.printF n ps = ([], 41) by unfold Tx.printF; rw [if_pos hbad])
    rcases hbad with h | h
    · go_wp2_with fail
      go_ret2
      unfold PrintSaid
      rw [HR.out]
      exact ⟨none, 0, rfl, World.ownsRow_nil _ _ _ _, Below.refl _ _⟩
    · have h0 : ¬ n < 0 := by omega
      go_wp2_with fail
      go_ret2
      unfold PrintSaid
      rw [HR.out]
      exact ⟨none, 0, rfl, World.ownsRow_nil _ _ _ _, Below.refl _ _⟩
  · have HR := Lib.hid (show Tx.printF n ps = Tx.prF n (Tx.rowF Tx.vertices [n]) ps by unfold Tx.printF; rw [if_neg hbad])
    have h0 : ¬ n < 0 := by omega
    have h1 : ¬ 16777216 < n := by omega
    have hb1 : Below w.heap.size w (w.alloc (.cells #[.int .i64 n] 3)) := (Below.refl _ _).alloc (Nat.le_refl _) _
    have Hrow := Lib.hid (row_calls w.heap.size (.slice none 0 0) [] Tx.vertices ⟨#[118, 101, 114, 116, 105, 99, 101, 115]⟩ w.heap.size 1 [n] (w.alloc (.cells #[.int .i64 n] 3)) (World.ownsRow_nil _ _ _ _) (by kernel_rfl) (by simp) (by simp) (by simp [Tx.vertices]) rfl (by omega) (heap_alloc_new _ _) (by intro z hz; simp at hz; subst hz; exact ⟨hn0, hn1⟩) (Ht.out.on hb1))
    have Hb1 := Lib.hid hb1
    have hdl := Lib.itoa_length_le n hn0 hn1
    have hrl : (Tx.rowF Tx.vertices [n]).length ≤ 100 := by
      unfold Tx.rowF Tx.rowF
      have := Tx.sepF_length Tx.vertices
      rw [List.length_append, List.length_append, Tx.digs_length]
      have : Tx.vertices.length = 8 := rfl
      simp; omega
    clear hbad hb1 hdl
    go_wp2_with fail
    refine (Hrow.out).mono ?_
    rintro en w1 ⟨v1, rfl, hown1, hb1⟩
    rw [List.nil_append] at hown1
    have Hown1 := Lib.hid hown1; have Hbw := Lib.hid (Hb1.out.trans hb1)
    obtain ⟨c0, hc0⟩ : ∃ c, Tx.rowF Tx.vertices [n] = c := ⟨_, rfl⟩
    rw [hc0] at Hown1 HR hrl
    clear hown1 hb1 Hrow Hb1 hc0
    go_wp2_with fail
    go_loopw [6, 20] (fun v iv wr => ∃ (a : Nat) (bs : List (BitVec 8)), iv = .int .i64 (a : Int) ∧ wr.ownsRow w.heap.size 5 1 v bs.length (bs.map V8) ∧ Below w.heap.size w wr ∧ a ≤ k ∧ bs.length ≤ 100 + 45 * a ∧ Tx.printF n ps = Tx.prF n bs (ps.drop a)) (fun _ iv _ => k - (intOf iv).toNat)
    case atStart => exact ⟨0, c0, rfl, Hown1.out, Hbw.out, by omega, by omega, by rw [List.drop_zero]; exact HR.out⟩
    case round =>
      obtain ⟨a, bs, rfl, hown, hbr, ha, hbl, hrun⟩ := hrel
      obtain ⟨A1, cap1, rfl, hcc, hcm, _⟩ := own_form hown
      have Hown := Lib.hid hown; have Hbr := Lib.hid hbr; have Hrun := Lib.hid hrun
      have hszr := hbr.size
      clear hown hbr hrun
      by_cases hlt : a < k
      · have q1 : (a : Int) < (k : Int) := by omega
        obtain ⟨⟨u, v⟩, hp⟩ : ∃ p, ps[a]? = some p := ⟨ps[a]'(by rw [← Hk.out]; omega), List.getElem?_eq_getElem _⟩
        obtain ⟨bb, off, rfl, hbb, hc1, hc2⟩ := rd_pair (Hr.out.below Hbr.out hB) hp
        dsimp only at hc1 hc2
        have hpm := Hps.out _ (List.mem_of_getElem? hp)
        have hdrop : ps.drop a = (u, v) :: ps.drop (a + 1) := by
          rw [List.drop_eq_getElem_cons (by rw [← Hk.out]; omega)]; congr 1
          exact (List.getElem?_eq_some_iff.1 hp).2
        have Hrun1 := Lib.hid (show Tx.printF n ps = if Tx.badP n (u, v) then ([], 42) else Tx.prF n (Tx.rowF bs [u, v]) (ps.drop (a + 1)) by rw [Hrun.out, hdrop]; rfl)
        have Hpm := Lib.hid hpm
        clear hp hdrop hpm
        go_upto_region 7 with fail
        have hpa : PaIs (wr.alloc (.cells #[.int .i64 u, .int .i64 v] 127)) wr.heap.size (u, v) := heap_alloc_new _ _
        have hb2 : Below wr.heap.size wr (wr.alloc (.cells #[.int .i64 u, .int .i64 v] 127)) := (Below.refl _ _).alloc (Nat.le_refl _) _
        have Hown2 := Lib.hid (own_below Hown.out hb2 (Nat.le_refl _))
        have Hbr2 := Lib.hid (Hbr.out.trans (hb2.mono hszr))
        have hz2 : (wr.alloc (.cells #[.int .i64 u, .int .i64 v] 127)).heap.size ≥ wr.heap.size + 1 := by simp
        clear hb2 hc1 hc2 Hown Hbr
        generalize wr.alloc (.cells #[.int .i64 u, .int .i64 v] 127) = w2 at *
        have p0 := hpa.c0; have p1 := hpa.c1
        dsimp only at p0 p1
        go_cut [38] (fun s w' => s = .bool (decide (Tx.badP n (u, v))) ∧ w2 = w')
        case first =>
          by_cases huv : u ≤ v
          · by_cases h1 : u < 0
            · go_wp2_with fail
              go_meet
              exact ⟨by rw [decide_eq_true (show Tx.badP n (u, v) by unfold Tx.badP; dsimp only; omega)]; try (first | rfl | (congr 1; simp; omega)), rfl⟩
            · by_cases h2 : n ≤ v
              · go_wp2_with fail
                go_meet
                exact ⟨by rw [decide_eq_true (show Tx.badP n (u, v) by unfold Tx.badP; dsimp only; omega)]; try (first | rfl | (congr 1; simp; omega)), rfl⟩
              · go_wp2_with fail
                go_meet
                exact ⟨by rw [decide_eq_false (show ¬ Tx.badP n (u, v) by unfold Tx.badP; dsimp only; omega)]; try (first | rfl | (congr 1; simp; omega)), rfl⟩
          · have hvu : v ≤ u := by omega
            by_cases h1 : v < 0
            · go_wp2_with fail
              go_meet
              exact ⟨by rw [decide_eq_true (show Tx.badP n (u, v) by unfold Tx.badP; dsimp only; omega)]; try (first | rfl | (congr 1; simp; omega)), rfl⟩
            · by_cases h2 : n ≤ u
              · go_wp2_with fail
                go_meet
                exact ⟨by rw [decide_eq_true (show Tx.badP n (u, v) by unfold Tx.badP; dsimp only; omega)]; try (first | rfl | (congr 1; simp; omega)), rfl⟩
              · go_wp2_with fail
                go_meet
                exact ⟨by rw [decide_eq_false (show ¬ Tx.badP n (u, v) by unfold Tx.badP; dsimp only; omega)]; try (first | rfl | (congr 1; simp; omega)), rfl⟩
        case rest =>
          obtain ⟨rfl, rfl⟩ := hcut
          by_cases hbd : Tx.badP n (u, v)
          · rw [decide_eq_true hbd]
            have Hfin := Lib.hid (show Tx.printF n ps = ([], 42) by rw [Hrun1.out, if_pos hbd])
            clear hbd
            go_wp2_with fail
            go_ret2
            unfold PrintSaid
            rw [Hfin.out]
            exact ⟨none, 0, rfl, World.ownsRow_nil _ _ _ _, Hbr2.out⟩
          · rw [decide_eq_false hbd]
            have Hrun2 := Lib.hid (show Tx.printF n ps = Tx.prF n (Tx.rowF bs [u, v]) (ps.drop (a + 1)) by rw [Hrun1.out, if_neg hbd])
            have hpm := Hpm.out
            dsimp only at hpm
            have hb3 : Below w2.heap.size w2 (w2.alloc (.cells #[.int .i64 u, .int .i64 v] 3)) := (Below.refl _ _).alloc (Nat.le_refl _) _
            have hbr3 := Hbr2.out.trans (hb3.mono (by omega))
            have Hrow := Lib.hid (row_calls w.heap.size (.slice A1 bs.length cap1) bs [] ⟨#[]⟩ w2.heap.size 2 [u, v] (w2.alloc (.cells #[.int .i64 u, .int .i64 v] 3)) (own_below Hown2.out hb3 (Nat.le_refl _)) (by kernel_rfl) hbr3.size (by omega) (by simp) rfl (by omega) (heap_alloc_new _ _) (by
              intro z hz
              rcases List.mem_cons.1 hz with rfl | hz
              · exact hpm.1
              · simp at hz; subst hz; exact hpm.2) (Ht.out.on hbr3))
            have Hbr3 := Lib.hid hbr3
            have hrl := Tx.rowF2_length bs u v (Lib.itoa_length_le u hpm.1.1 hpm.1.2) (Lib.itoa_length_le v hpm.2.1 hpm.2.2)
            clear hbd hpm hb3 hbr3
            go_wp2_with fail
            refine (Hrow.out).mono ?_
            rintro en w4 ⟨v4, rfl, hown4, hb4⟩
            rw [List.append_nil] at hown4
            have Hown4 := Lib.hid hown4; have Hb4 := Lib.hid (Hbr3.out.trans hb4)
            clear hown4 hb4 Hrow
            go_wp2_with fail
            go_roundw
            case rel => exact ⟨a + 1, Tx.rowF bs [u, v], by congr 1, Hown4.out, Hb4.out, by omega, by omega, Hrun2.out⟩
            case measure => simp [intOf]; omega
      · have hae : a = k := by omega
        subst hae
        have Hfin := Lib.hid (show Tx.printF n ps = (bs, 0) by rw [Hrun.out, List.drop_eq_nil_of_le (by rw [← Hk.out]; exact Nat.le_refl _)]; rfl)
        go_wp2_with fail
        go_ret2
        unfold PrintSaid
        rw [Hfin.out]
        exact ⟨_, _, rfl, Hown.out, Hbr.out⟩
end Go.Proofs.YtmeoafodcniliaaGreatDoor.C4
