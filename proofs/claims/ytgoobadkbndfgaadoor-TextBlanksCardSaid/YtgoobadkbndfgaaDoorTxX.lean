/- text.PrintChanges -/
import Derived.Test.YtgoobadkbndfgaaDoorTxV
namespace Go.Proofs.YtgoobadkbndfgaaDoor
open Go.RowKit
set_option linter.unusedSimpArgs false
set_option linter.unusedVariables false
namespace Tx
def badC (c : Ch) : Prop := c.u < 0 ∨ c.v < 0 ∨ 2147483647 < c.u ∨ 2147483647 < c.v
instance (c : Ch) : Decidable (badC c) := by unfold badC; infer_instance
def sign (b : Bool) : List By := if b then [45#8] else [43#8]
def pcF : List By → List Ch → List By × Int
  | bs, [] => (bs, 0)
  | bs, c :: cs => if badC c then ([], 42) else pcF (rowF (bs ++ sign c.gone) [c.u, c.v]) cs
end Tx
set_option maxHeartbeats 8000000 in
set_option maxRecDepth 20000 in
theorem PrintChanges_calls (A : Option Addr) (k cap B : Nat) (ps : List Tx.Ch) (w : World) (hk : k = ps.length) (hk2 : k ≤ 100000) (hB : B ≤ w.heap.size) (hr : Rd w B A (chs ps))
    (hps : ∀ p ∈ ps, (-9223372036854775808 ≤ p.u ∧ p.u ≤ 9223372036854775807) ∧ -9223372036854775808 ≤ p.v ∧ p.v ≤ 9223372036854775807) (ht : Pow w.heap.size w) :
    Calls Tryd.prog 15 #[.slice A k cap] w (PrintSaid (Tx.pcF [] ps) w) := by
  have Hk := Lib.hid hk; have Hr := Lib.hid hr; have Ht := Lib.hid ht; have Hps := Lib.hid hps
  clear hk hr ht hps
  go_enter Tryd.func15, Tryd.ntmps15
  go_wp2_with fail
  go_loopw [4, 10] (fun v iv wr => ∃ (a : Nat) (bs : List (BitVec 8)), iv = .int .i64 (a : Int) ∧ wr.ownsRow w.heap.size 5 1 v bs.length (bs.map V8) ∧ Below w.heap.size w wr ∧ a ≤ k ∧ bs.length ≤ 46 * a ∧ Tx.pcF [] ps = Tx.pcF bs (ps.drop a)) (fun _ iv _ => k - (intOf iv).toNat)
  case atStart => exact ⟨0, [], rfl, World.ownsRow_nil _ _ _ _, Below.refl _ _, by omega, by simp, by rw [List.drop_zero]⟩
  case round =>
    obtain ⟨a, bs, rfl, hown, hbr, ha, hbl, hrun⟩ := hrel
    obtain ⟨A1, cap1, rfl, hcc, hcm, _⟩ := own_form hown
    have Hown := Lib.hid hown; have Hbr := Lib.hid hbr; have Hrun := Lib.hid hrun
    have hszr := hbr.size
    clear hown hbr hrun
    by_cases hlt : a < k
    · have q1 : (a : Int) < (k : Int) := by omega
      obtain ⟨⟨u, v, gn, e0⟩, hp⟩ : ∃ p, ps[a]? = some p := ⟨ps[a]'(by rw [← Hk.out]; omega), List.getElem?_eq_getElem _⟩
      obtain ⟨bb, off, rfl, hbb, hc1, hc2, hc3⟩ := rd_ch (Hr.out.below Hbr.out hB) hp
      dsimp only at hc1 hc2 hc3
      have hpm := Hps.out _ (List.mem_of_getElem? hp)
      have hdrop : ps.drop a = ⟨u, v, gn, e0⟩ :: ps.drop (a + 1) := by
        rw [List.drop_eq_getElem_cons (by rw [← Hk.out]; omega)]; congr 1
        exact (List.getElem?_eq_some_iff.1 hp).2
      have Hrun1 := Lib.hid (show Tx.pcF [] ps = if Tx.badC ⟨u, v, gn, e0⟩ then ([], 42) else Tx.pcF (Tx.rowF (bs ++ Tx.sign gn) [u, v]) (ps.drop (a + 1)) by rw [Hrun.out, hdrop]; rfl)
      have Hpm := Lib.hid hpm
      clear hp hdrop hpm
      go_upto_region 5 with fail
      have hpa : ChIs (wr.alloc (.cells #[.int .i64 u, .int .i64 v, .bool gn] 26)) wr.heap.size u v gn := heap_alloc_new _ _
      have hb2 : Below wr.heap.size wr (wr.alloc (.cells #[.int .i64 u, .int .i64 v, .bool gn] 26)) := (Below.refl _ _).alloc (Nat.le_refl _) _
      have Hown2 := Lib.hid (own_below Hown.out hb2 (Nat.le_refl _))
      have Hbr2 := Lib.hid (Hbr.out.trans (hb2.mono hszr))
      have hz2 : (wr.alloc (.cells #[.int .i64 u, .int .i64 v, .bool gn] 26)).heap.size ≥ wr.heap.size + 1 := by simp
      clear hb2 hc1 hc2 hc3 Hown Hbr
      generalize wr.alloc (.cells #[.int .i64 u, .int .i64 v, .bool gn] 26) = w2 at *
      have p0 := hpa.c.1; have p1 := hpa.c.2.1; have p2 := hpa.c.2.2
      go_cut [27] (fun s w' => s = .bool (decide (Tx.badC ⟨u, v, gn, e0⟩)) ∧ w2 = w')
      case first =>
        by_cases huv : u ≤ v
        · by_cases h1 : u < 0
          · go_wp2_with fail
            go_meet
            exact ⟨by rw [decide_eq_true (show Tx.badC ⟨u, v, gn, e0⟩ by unfold Tx.badC; dsimp only; omega)]; try (first | rfl | (congr 1; simp; omega)), rfl⟩
          · by_cases h2 : 2147483647 < v
            · go_wp2_with fail
              go_meet
              exact ⟨by rw [decide_eq_true (show Tx.badC ⟨u, v, gn, e0⟩ by unfold Tx.badC; dsimp only; omega)]; try (first | rfl | (congr 1; simp; omega)), rfl⟩
            · go_wp2_with fail
              go_meet
              exact ⟨by rw [decide_eq_false (show ¬ Tx.badC ⟨u, v, gn, e0⟩ by unfold Tx.badC; dsimp only; omega)]; try (first | rfl | (congr 1; simp; omega)), rfl⟩
        · have hvu : v ≤ u := by omega
          by_cases h1 : v < 0
          · go_wp2_with fail
            go_meet
            exact ⟨by rw [decide_eq_true (show Tx.badC ⟨u, v, gn, e0⟩ by unfold Tx.badC; dsimp only; omega)]; try (first | rfl | (congr 1; simp; omega)), rfl⟩
          · by_cases h2 : 2147483647 < u
            · go_wp2_with fail
              go_meet
              exact ⟨by rw [decide_eq_true (show Tx.badC ⟨u, v, gn, e0⟩ by unfold Tx.badC; dsimp only; omega)]; try (first | rfl | (congr 1; simp; omega)), rfl⟩
            · go_wp2_with fail
              go_meet
              exact ⟨by rw [decide_eq_false (show ¬ Tx.badC ⟨u, v, gn, e0⟩ by unfold Tx.badC; dsimp only; omega)]; try (first | rfl | (congr 1; simp; omega)), rfl⟩
      case rest =>
        obtain ⟨rfl, rfl⟩ := hcut
        by_cases hbd : Tx.badC ⟨u, v, gn, e0⟩
        · rw [decide_eq_true hbd]
          have Hfin := Lib.hid (show Tx.pcF [] ps = ([], 42) by rw [Hrun1.out, if_pos hbd])
          clear hbd
          go_wp2_with fail
          go_ret2
          unfold PrintSaid
          rw [Hfin.out]
          exact ⟨none, 0, rfl, World.ownsRow_nil _ _ _ _, Hbr2.out⟩
        · rw [decide_eq_false hbd]
          have Hrun2 := Lib.hid (show Tx.pcF [] ps = Tx.pcF (Tx.rowF (bs ++ Tx.sign gn) [u, v]) (ps.drop (a + 1)) by rw [Hrun1.out, if_neg hbd])
          have hpm := Hpm.out
          dsimp only at hpm
          have hb3 : Below w2.heap.size w2 (w2.alloc (.cells #[.int .i64 u, .int .i64 v] 3)) := (Below.refl _ _).alloc (Nat.le_refl _) _
          have hbr3 := Hbr2.out.trans (hb3.mono (by omega))
          have Hrow := Lib.hid (fun (ws : List (BitVec 8)) (s : ByteArray) (hs : s = strOf ws) (hw : ws.length ≤ 100) => row_calls w.heap.size (.slice A1 bs.length cap1) bs ws s w2.heap.size 2 [u, v] (w2.alloc (.cells #[.int .i64 u, .int .i64 v] 3)) (own_below Hown2.out hb3 (Nat.le_refl _)) hs hbr3.size (by omega) hw rfl (by omega) (heap_alloc_new _ _) (by
            intro z hz
            rcases List.mem_cons.1 hz with rfl | hz
            · exact hpm.1
            · simp at hz; subst hz; exact hpm.2) (Ht.out.on hbr3))
          have Hbr3 := Lib.hid hbr3
          have hsl : (bs ++ Tx.sign gn).length = bs.length + 1 := by cases gn <;> simp [Tx.sign]
          have hrl := Tx.rowF2_length (bs ++ Tx.sign gn) u v (Lib.itoa_length_le u hpm.1.1 hpm.1.2) (Lib.itoa_length_le v hpm.2.1 hpm.2.2)
          rw [hsl] at hrl
          clear hsl
          clear hbd hpm hb3 hbr3
          cases gn with
          | false =>
            go_wp2_with fail
            refine (Hrow.out _ _ (show _ = strOf (Tx.sign false) by kernel_rfl) (by simp [Tx.sign])).mono ?_
            rintro en w4 ⟨v4, rfl, hown4, hb4⟩
            have Hown4 := Lib.hid hown4; have Hb4 := Lib.hid (Hbr3.out.trans hb4)
            clear hown4 hb4 Hrow
            go_wp2_with fail
            go_roundw
            case rel => exact ⟨a + 1, Tx.rowF (bs ++ Tx.sign false) [u, v], by congr 1, Hown4.out, Hb4.out, by omega, by omega, Hrun2.out⟩
            case measure => simp [intOf]; omega
          | true =>
            go_wp2_with fail
            refine (Hrow.out _ _ (show _ = strOf (Tx.sign true) by kernel_rfl) (by simp [Tx.sign])).mono ?_
            rintro en w4 ⟨v4, rfl, hown4, hb4⟩
            have Hown4 := Lib.hid hown4; have Hb4 := Lib.hid (Hbr3.out.trans hb4)
            clear hown4 hb4 Hrow
            go_wp2_with fail
            go_roundw
            case rel => exact ⟨a + 1, Tx.rowF (bs ++ Tx.sign true) [u, v], by congr 1, Hown4.out, Hb4.out, by omega, by omega, Hrun2.out⟩
            case measure => simp [intOf]; omega
    · have hae : a = k := by omega
      subst hae
      have Hfin := Lib.hid (show Tx.pcF [] ps = (bs, 0) by rw [Hrun.out, List.drop_eq_nil_of_le (by rw [← Hk.out]; exact Nat.le_refl _)]; rfl)
      go_wp2_with fail
      go_ret2
      unfold PrintSaid
      rw [Hfin.out]
      exact ⟨_, _, rfl, Hown.out, Hbr.out⟩
end Go.Proofs.YtgoobadkbndfgaaDoor
