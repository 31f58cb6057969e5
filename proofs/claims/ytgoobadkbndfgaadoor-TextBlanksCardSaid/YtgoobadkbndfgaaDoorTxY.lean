/- the reference's PrintChanges -/
import Derived.Test.YtgoobadkbndfgaaDoorTxX
import Derived.Deep.RegionHeld3
import Derived.BigQuiet
namespace Go.Proofs.YtgoobadkbndfgaaDoor
open Go.RowKit
set_option linter.unusedSimpArgs false
set_option linter.unusedVariables false
theorem strOf_append (a b : List (BitVec 8)) : strOf a ++ strOf b = strOf (a ++ b) := by
  apply ByteArray.ext
  unfold strOf
  simp [ByteArray.data_append]
theorem itoa_str (z : Int) : (⟨(Lib.itoa z).toArray⟩ : ByteArray) = strOf (Tx.digs z) := by
  unfold strOf Tx.digs
  congr 2
  rw [List.map_map]
  exact (List.map_id _).symm
theorem below_grow (w : World) (os : Array Obj) : Below w.heap.size w (Go.Sort.grow w os) := by
  refine ⟨rfl, rfl, rfl, by simp [Go.Sort.grow], fun k hk => ?_⟩
  show (w.heap ++ os)[k]? = _
  rw [Array.getElem?_append_left hk]
theorem itoa_calls (B : Nat) (z : Int) (w : World) (h0 : -9223372036854775808 ≤ z) (h1 : z ≤ 9223372036854775807) (ht : Pow B w) :
    Calls Tryd.prog 44 #[.int .i64 z] w fun e w' => e = .returned (.string (strOf (Tx.digs z))) ∧ Below w.heap.size w w' := by
  refine (Tryd.strconv_Itoa z h0 h1 w ht.here).mono ?_
  rintro e w' ⟨rfl, k, os, rfl⟩
  rw [itoa_str]
  exact ⟨rfl, (below_drewN (Below.refl _ _) k).trans (by have := below_grow (w.drewN k) os; exact this)⟩
namespace Tx
/-- The last of a number's digits is no newline. -/
theorem digs_last (z : Int) : ∃ c, (digs z).getLast? = some c ∧ n8 c ≠ 10 := by
  have hd : ∀ u : Nat, ∃ c, (Lib.decDigits u).getLast? = some c ∧ c.toNat ≠ 10 := by
    intro u
    unfold Lib.decDigits
    split
    · refine ⟨_, rfl, ?_⟩
      simp [UInt8.toNat_ofNat']; omega
    · refine ⟨UInt8.ofNat (48 + u % 10), by simp, ?_⟩
      simp [UInt8.toNat_ofNat']; omega
  unfold digs Lib.itoa
  split
  · obtain ⟨c, h1, h2⟩ := hd z.natAbs
    refine ⟨c.toBitVec, ?_, h2⟩
    rw [List.map_cons, List.getLast?_cons, List.getLast?_map, h1]; rfl
  · obtain ⟨c, h1, h2⟩ := hd z.toNat
    exact ⟨c.toBitVec, by rw [List.getLast?_map, h1]; rfl, h2⟩
theorem sepF_last {bs : List By} {c : By} (h : bs.getLast? = some c) (hc : n8 c ≠ 10) : sepF bs = bs ++ [32#8] := by
  unfold sepF; rw [h]; dsimp only; rw [if_neg hc]
theorem sepF_digs (bs : List By) (z : Int) : sepF (bs ++ digs z) = bs ++ digs z ++ [32#8] := by
  obtain ⟨c, h1, h2⟩ := digs_last z
  exact sepF_last (by rw [List.getLast?_append, h1]; rfl) h2
theorem sepF_sign (bs : List By) (g : Bool) : sepF (bs ++ sign g) = bs ++ sign g ++ [32#8] := by
  cases g
  · exact sepF_last (c := 43#8) (by simp [sign]) (by decide)
  · exact sepF_last (c := 45#8) (by simp [sign]) (by decide)
theorem rowF_change (bs : List By) (g : Bool) (u v : Int) : rowF (bs ++ sign g) [u, v] = bs ++ (sign g ++ [32#8] ++ digs u ++ [32#8] ++ digs v ++ [10#8]) := by
  unfold rowF rowF rowF
  rw [sepF_sign, sepF_digs]
  simp [List.append_assoc]
end Tx
theorem str_add (x y : ByteArray) (a b : List (BitVec 8)) (hx : x = strOf a) (hy : y = strOf b) (ha : a.length ≤ 1000) (hb : b.length ≤ 1000) (w : World) : (Op.stringOp .add x y).run Tryd.prog w = .ok (.string (strOf (a ++ b))) w := by
  subst hx hy
  exact (run_string_add_sum w _ _ (by rw [strOf_size, strOf_size]; omega)).trans (by rw [strOf_append])
theorem pa_keep {W w' w'' : World} {g B : Nat} {u v : Value} (h : (w'.cell? ⟨g, 0, none⟩ = some u ∧ w'.cell? ⟨g, 1, none⟩ = some v) ∧ g < B ∧ Below B W w') (hb : Below B w' w'') :
    (w''.cell? ⟨g, 0, none⟩ = some u ∧ w''.cell? ⟨g, 1, none⟩ = some v) ∧ g < B ∧ Below B W w'' :=
  ⟨⟨(hb.cell (p := ⟨g, 0, none⟩) h.2.1).trans h.1.1, (hb.cell (p := ⟨g, 1, none⟩) h.2.1).trans h.1.2⟩, h.2.1, h.2.2.trans hb⟩
set_option maxHeartbeats 8000000 in
set_option maxRecDepth 20000 in
theorem rPrintChanges_calls (A : Option Addr) (k cap B : Nat) (ps : List Tx.Ch) (w : World) (hk : k = ps.length) (hk2 : k ≤ 100000) (hB : B ≤ w.heap.size) (hr : Rd w B A (chs ps))
    (hps : ∀ p ∈ ps, (-9223372036854775808 ≤ p.u ∧ p.u ≤ 9223372036854775807) ∧ -9223372036854775808 ≤ p.v ∧ p.v ≤ 9223372036854775807) (ht : Pow w.heap.size w) :
    Calls Tryd.prog 16 #[.slice A k cap] w (PrintSaid (Tx.pcF [] ps) w) := by
  obtain ⟨i8, h8, h80, h81, h82⟩ := info_parts infoU8
  have H8 := Lib.hid h8
  have Hk := Lib.hid hk; have Hr := Lib.hid hr; have Ht := Lib.hid ht; have Hps := Lib.hid hps
  clear hk hr ht hps h8
  go_enter Tryd.func16, Tryd.ntmps16
  go_wp2_with fail
  go_loopw [4, 5] (fun v iv wr => ∃ (a : Nat) (bs : List (BitVec 8)), iv = .int .i64 (a : Int) ∧ wr.ownsRow w.heap.size 5 1 v bs.length (bs.map V8) ∧ Below w.heap.size w wr ∧ a ≤ k ∧ bs.length ≤ 46 * a ∧ Tx.pcF [] ps = Tx.pcF bs (ps.drop a)) (fun _ iv _ => k - (intOf iv).toNat)
  case atStart => exact ⟨0, [], rfl, World.ownsRow_nil _ _ _ _, Below.refl _ _, by omega, by simp, by rw [List.drop_zero]⟩
  case round =>
    obtain ⟨a, bs, rfl, hown, hbr, ha, hbl, hrun⟩ := hrel
    obtain ⟨A1, cap1, rfl, hcc, hcm, _⟩ := own_form hown
    have Hown := Lib.hid hown; have Hbr := Lib.hid hbr; have Hrun := Lib.hid hrun
    have hszr := hbr.size
    clear hown hbr hrun
    by_cases hlt : a < k
    · have q1 : (a : Int) < (k : Int) := by omega
      obtain ⟨⟨u, v, gn, e0⟩, hp⟩ : ∃ p, ps[a]? = some p := ⟨ps[a]'(by rw [← Hk.out]; omega), List.getElem?_eq_getElem _⟩
      obtain ⟨bb, off, rfl, hbb, hc1, hc2, hc3⟩ := rd_ch (Hr.out.below Hbr.out hB) hp
      dsimp only at hc1 hc2 hc3
      have hpm := Hps.out _ (List.mem_of_getElem? hp)
      have hdrop : ps.drop a = ⟨u, v, gn, e0⟩ :: ps.drop (a + 1) := by
        rw [List.drop_eq_getElem_cons (by rw [← Hk.out]; omega)]; congr 1
        exact (List.getElem?_eq_some_iff.1 hp).2
      have Hrun1 := Lib.hid (show Tx.pcF [] ps = if Tx.badC ⟨u, v, gn, e0⟩ then ([], 42) else Tx.pcF (Tx.rowF (bs ++ Tx.sign gn) [u, v]) (ps.drop (a + 1)) by rw [Hrun.out, hdrop]; rfl)
      have Hpm := Lib.hid hpm
      clear hp hdrop hpm
      go_upto_region 6 with fail
      have hpa : ChIs (wr.alloc (.cells #[.int .i64 u, .int .i64 v, .bool gn] 26)) wr.heap.size u v gn := heap_alloc_new _ _
      have hb2 : Below wr.heap.size wr (wr.alloc (.cells #[.int .i64 u, .int .i64 v, .bool gn] 26)) := (Below.refl _ _).alloc (Nat.le_refl _) _
      have Hown2 := Lib.hid (own_below Hown.out hb2 (Nat.le_refl _))
      have Hbr2 := Lib.hid (Hbr.out.trans (hb2.mono hszr))
      have hz2 : (wr.alloc (.cells #[.int .i64 u, .int .i64 v, .bool gn] 26)).heap.size ≥ wr.heap.size + 1 := by simp
      clear hb2 hc1 hc2 hc3 Hown Hbr
      generalize wr.alloc (.cells #[.int .i64 u, .int .i64 v, .bool gn] 26) = w2 at *
      have p0 := hpa.c.1; have p1 := hpa.c.2.1; have p2 := hpa.c.2.2
      go_cut [35] (fun s w' => s = .bool (decide (Tx.badC ⟨u, v, gn, e0⟩)) ∧ w2 = w')
      case first =>
        by_cases h1 : u < 0
        · go_wp2_with fail
          go_meet
          exact ⟨by rw [decide_eq_true (show Tx.badC ⟨u, v, gn, e0⟩ by unfold Tx.badC; dsimp only; omega)], rfl⟩
        · by_cases h2 : 2147483647 < u
          · go_wp2_with fail
            go_meet
            exact ⟨by rw [decide_eq_true (show Tx.badC ⟨u, v, gn, e0⟩ by unfold Tx.badC; dsimp only; omega)], rfl⟩
          · by_cases h3 : v < 0
            · go_wp2_with fail
              go_meet
              exact ⟨by rw [decide_eq_true (show Tx.badC ⟨u, v, gn, e0⟩ by unfold Tx.badC; dsimp only; omega)], rfl⟩
            · by_cases h4 : 2147483647 < v
              · go_wp2_with fail
                go_meet
                exact ⟨by rw [decide_eq_true (show Tx.badC ⟨u, v, gn, e0⟩ by unfold Tx.badC; dsimp only; omega)], rfl⟩
              · go_wp2_with fail
                go_meet
                exact ⟨by rw [decide_eq_false (show ¬ Tx.badC ⟨u, v, gn, e0⟩ by unfold Tx.badC; dsimp only; omega)], rfl⟩
      case rest =>
        obtain ⟨rfl, rfl⟩ := hcut
        by_cases hbd : Tx.badC ⟨u, v, gn, e0⟩
        · rw [decide_eq_true hbd]
          have Hfin := Lib.hid (show Tx.pcF [] ps = ([], 42) by rw [Hrun1.out, if_pos hbd])
          clear hbd
          go_wp2_with fail
          go_ret2
          unfold PrintSaid
          rw [Hfin.out]
          exact ⟨none, 0, rfl, World.ownsRow_nil _ _ _ _, Hbr2.out⟩
        · rw [decide_eq_false hbd]
          have Hrun2 := Lib.hid (show Tx.pcF [] ps = Tx.pcF (Tx.rowF (bs ++ Tx.sign gn) [u, v]) (ps.drop (a + 1)) by rw [Hrun1.out, if_neg hbd])
          have hpm := Hpm.out
          dsimp only at hpm
          clear hbd
          cases gn with
          | false =>
            have hdu := Tx.digs_length u; have hdv := Tx.digs_length v
            have hlu := Lib.itoa_length_le u hpm.1.1 hpm.1.2; have hlv := Lib.itoa_length_le v hpm.2.1 hpm.2.2
            obtain ⟨SU, hSU⟩ : ∃ x, x = strOf (Tx.digs u) := ⟨_, rfl⟩
            obtain ⟨SV, hSV⟩ : ∃ x, x = strOf (Tx.digs v) := ⟨_, rfl⟩
            obtain ⟨S1, hS1⟩ : ∃ x, x = strOf (Tx.sign false ++ [32#8] ++ Tx.digs u) := ⟨_, rfl⟩
            obtain ⟨S2, hS2⟩ : ∃ x, x = strOf (Tx.sign false ++ [32#8] ++ Tx.digs u ++ [32#8]) := ⟨_, rfl⟩
            obtain ⟨S3, hS3⟩ : ∃ x, x = strOf (Tx.sign false ++ [32#8] ++ Tx.digs u ++ [32#8] ++ Tx.digs v) := ⟨_, rfl⟩
            obtain ⟨S4, hS4⟩ : ∃ x, x = strOf (Tx.sign false ++ [32#8] ++ Tx.digs u ++ [32#8] ++ Tx.digs v ++ [10#8]) := ⟨_, rfl⟩
            have f1 : ∀ w, (Op.stringOp .add ⟨#[43, 32]⟩ SU).run Tryd.prog w = .ok (.string S1) w := fun w => by
              rw [hSU, hS1]; exact str_add _ _ (Tx.sign false ++ [32#8]) (Tx.digs u) (by kernel_rfl) rfl (by simp [Tx.sign]) (by omega) w
            have f2 : ∀ w, (Op.stringOp .add S1 ⟨#[32]⟩).run Tryd.prog w = .ok (.string S2) w := fun w => by
              rw [hS1, hS2]; exact str_add _ _ (Tx.sign false ++ [32#8] ++ Tx.digs u) [32#8] rfl (by kernel_rfl) (by simp [Tx.sign]; omega) (by simp) w
            have f3 : ∀ w, (Op.stringOp .add S2 SV).run Tryd.prog w = .ok (.string S3) w := fun w => by
              rw [hS2, hS3, hSV]; exact str_add _ _ (Tx.sign false ++ [32#8] ++ Tx.digs u ++ [32#8]) (Tx.digs v) rfl rfl (by simp [Tx.sign]; omega) (by omega) w
            have f4 : ∀ w, (Op.stringOp .add S3 ⟨#[10]⟩).run Tryd.prog w = .ok (.string S4) w := fun w => by
              rw [hS3, hS4]; exact str_add _ _ (Tx.sign false ++ [32#8] ++ Tx.digs u ++ [32#8] ++ Tx.digs v) [10#8] rfl (by kernel_rfl) (by simp [Tx.sign]; omega) (by simp) w
            have Hiu := Lib.hid (fun w' (ht : Pow w.heap.size w') => by have := itoa_calls w.heap.size u w' hpm.1.1 hpm.1.2 ht; rw [← hSU] at this; exact this)
            have Hiv := Lib.hid (fun w' (ht : Pow w.heap.size w') => by have := itoa_calls w.heap.size v w' hpm.2.1 hpm.2.2 ht; rw [← hSV] at this; exact this)
            have HS4 := Lib.hid hS4
            clear hSU hSV hS1 hS2 hS3 hS4
            clear hdu hdv hlu hlv
            go_upto_region 11 with fail
            have hst : (w2.cell? ⟨wr.heap.size, 0, none⟩ = some (.int .i64 u) ∧ w2.cell? ⟨wr.heap.size, 1, none⟩ = some (.int .i64 v)) ∧ wr.heap.size < w2.heap.size ∧ Below w2.heap.size w2 w2 := ⟨⟨p0, p1⟩, by omega, Below.refl _ _⟩
            go_cut [7] (fun s w' => s = .string S4 ∧ Below w2.heap.size w2 w')
            case first =>
              go_region_held3 (fun w' => (w'.cell? ⟨wr.heap.size, 0, none⟩ = some (.int .i64 u) ∧ w'.cell? ⟨wr.heap.size, 1, none⟩ = some (.int .i64 v)) ∧ wr.heap.size < w2.heap.size ∧ Below w2.heap.size w2 w')
                ((rename (_ ∧ _) ∧ _ ∧ Below _ _ _ => hS; first
                  | exact hS
                  | exact pa_keep hS (Below.refl _ _).drew
                  | exact pa_keep hS (Below.mono (by assumption) hS.2.2.size)))
                ((first
                  | (go_at_call 44; rename (_ ∧ _) ∧ _ ∧ Below _ _ _ => hS; refine (Hiu.out _ ((Ht.out.on Hbr2.out).on (hS.2.2.mono (by have := Hbr2.out.size; omega)))).mono ?_; rintro e w' ⟨rfl, hb⟩)
                  | (go_at_call 44; rename (_ ∧ _) ∧ _ ∧ Below _ _ _ => hS; refine (Hiv.out _ ((Ht.out.on Hbr2.out).on (hS.2.2.mono (by have := Hbr2.out.size; omega)))).mono ?_; rintro e w' ⟨rfl, hb⟩)))
              all_goals (rename (_ ∧ _) ∧ _ ∧ Below _ _ _ => hS; have HS := Lib.hid hS; clear hS)
              all_goals (go_wp2_with fail; go_meet; exact ⟨rfl, HS.out.2.2⟩)
            case rest =>
              obtain ⟨rfl, hbc⟩ := hcut
              have hzc := hbc.size
              have Hoc := Lib.hid (own_below Hown2.out hbc (Nat.le_refl _))
              have Hbc := Lib.hid (Hbr2.out.trans (hbc.mono (by have := Hbr2.out.size; omega)))
              have hsz4 : S4.size ≤ 100 := by
                rw [HS4.out, strOf_size]
                have hlu := Lib.itoa_length_le u hpm.1.1 hpm.1.2; have hlv := Lib.itoa_length_le v hpm.2.1 hpm.2.2
                rw [← Tx.digs_length] at hlu hlv
                simp [Tx.sign]; omega
              have hsb : w.heap.size ≤ wc.heap.size := Hbc.out.size
              clear hbc hst f1 f2 f3 f4
              go_wp2_with (at_builtin; refine Lib.wpList_append_own_string _ rfl _ _ 27 9 rfl w.heap.size 5 i8 descU8s descStr H8.out h80 h81 h82 _ bs.length (bs.map V8) rfl Hoc.out S4 rfl (by unfold maxLen; omega) (by omega) hsb ?_; intro v9 w9 hown9 hg9 _; have Hown9 := Lib.hid hown9; have Hg9 := Lib.hid (show World.grownBy _ w9 (Value.slice A1 bs.length cap1).ownBlock from hg9); clear hown9 hg9)
              go_roundw
              case rel =>
                have hrf := Tx.rowF_change bs false u v
                have ho := Hown9.out
                rw [HS4.out, strCells_of, strOf_size, ← List.map_append, ← List.length_append, ← hrf] at ho
                have hlen : (Tx.rowF (bs ++ Tx.sign false) [u, v]).length = bs.length + S4.size := by rw [hrf, List.length_append, HS4.out, strOf_size]
                have hlu := Lib.itoa_length_le u hpm.1.1 hpm.1.2; have hlv := Lib.itoa_length_le v hpm.2.1 hpm.2.2
                have hl2 := Tx.rowF2_length (bs ++ Tx.sign false) u v hlu hlv
                have hsl : (bs ++ Tx.sign false).length = bs.length + 1 := by simp [Tx.sign]
                rw [hsl] at hl2
                exact ⟨a + 1, Tx.rowF (bs ++ Tx.sign false) [u, v], by congr 1, ho, Hbc.out.grown Hg9.out hsb (fun x hx => (Hoc.out.lt x hx).1), by omega, by omega, Hrun2.out⟩
              case measure => simp [intOf]; omega
          | true =>
            have hdu := Tx.digs_length u; have hdv := Tx.digs_length v
            have hlu := Lib.itoa_length_le u hpm.1.1 hpm.1.2; have hlv := Lib.itoa_length_le v hpm.2.1 hpm.2.2
            obtain ⟨SU, hSU⟩ : ∃ x, x = strOf (Tx.digs u) := ⟨_, rfl⟩
            obtain ⟨SV, hSV⟩ : ∃ x, x = strOf (Tx.digs v) := ⟨_, rfl⟩
            obtain ⟨S1, hS1⟩ : ∃ x, x = strOf (Tx.sign true ++ [32#8] ++ Tx.digs u) := ⟨_, rfl⟩
            obtain ⟨S2, hS2⟩ : ∃ x, x = strOf (Tx.sign true ++ [32#8] ++ Tx.digs u ++ [32#8]) := ⟨_, rfl⟩
            obtain ⟨S3, hS3⟩ : ∃ x, x = strOf (Tx.sign true ++ [32#8] ++ Tx.digs u ++ [32#8] ++ Tx.digs v) := ⟨_, rfl⟩
            obtain ⟨S4, hS4⟩ : ∃ x, x = strOf (Tx.sign true ++ [32#8] ++ Tx.digs u ++ [32#8] ++ Tx.digs v ++ [10#8]) := ⟨_, rfl⟩
            have f1 : ∀ w, (Op.stringOp .add ⟨#[45, 32]⟩ SU).run Tryd.prog w = .ok (.string S1) w := fun w => by
              rw [hSU, hS1]; exact str_add _ _ (Tx.sign true ++ [32#8]) (Tx.digs u) (by kernel_rfl) rfl (by simp [Tx.sign]) (by omega) w
            have f2 : ∀ w, (Op.stringOp .add S1 ⟨#[32]⟩).run Tryd.prog w = .ok (.string S2) w := fun w => by
              rw [hS1, hS2]; exact str_add _ _ (Tx.sign true ++ [32#8] ++ Tx.digs u) [32#8] rfl (by kernel_rfl) (by simp [Tx.sign]; omega) (by simp) w
            have f3 : ∀ w, (Op.stringOp .add S2 SV).run Tryd.prog w = .ok (.string S3) w := fun w => by
              rw [hS2, hS3, hSV]; exact str_add _ _ (Tx.sign true ++ [32#8] ++ Tx.digs u ++ [32#8]) (Tx.digs v) rfl rfl (by simp [Tx.sign]; omega) (by omega) w
            have f4 : ∀ w, (Op.stringOp .add S3 ⟨#[10]⟩).run Tryd.prog w = .ok (.string S4) w := fun w => by
              rw [hS3, hS4]; exact str_add _ _ (Tx.sign true ++ [32#8] ++ Tx.digs u ++ [32#8] ++ Tx.digs v) [10#8] rfl (by kernel_rfl) (by simp [Tx.sign]; omega) (by simp) w
            have Hiu := Lib.hid (fun w' (ht : Pow w.heap.size w') => by have := itoa_calls w.heap.size u w' hpm.1.1 hpm.1.2 ht; rw [← hSU] at this; exact this)
            have Hiv := Lib.hid (fun w' (ht : Pow w.heap.size w') => by have := itoa_calls w.heap.size v w' hpm.2.1 hpm.2.2 ht; rw [← hSV] at this; exact this)
            have HS4 := Lib.hid hS4
            clear hSU hSV hS1 hS2 hS3 hS4
            clear hdu hdv hlu hlv
            go_upto_region 11 with fail
            have hst : (w2.cell? ⟨wr.heap.size, 0, none⟩ = some (.int .i64 u) ∧ w2.cell? ⟨wr.heap.size, 1, none⟩ = some (.int .i64 v)) ∧ wr.heap.size < w2.heap.size ∧ Below w2.heap.size w2 w2 := ⟨⟨p0, p1⟩, by omega, Below.refl _ _⟩
            go_cut [7] (fun s w' => s = .string S4 ∧ Below w2.heap.size w2 w')
            case first =>
              go_region_held3 (fun w' => (w'.cell? ⟨wr.heap.size, 0, none⟩ = some (.int .i64 u) ∧ w'.cell? ⟨wr.heap.size, 1, none⟩ = some (.int .i64 v)) ∧ wr.heap.size < w2.heap.size ∧ Below w2.heap.size w2 w')
                ((rename (_ ∧ _) ∧ _ ∧ Below _ _ _ => hS; first
                  | exact hS
                  | exact pa_keep hS (Below.refl _ _).drew
                  | exact pa_keep hS (Below.mono (by assumption) hS.2.2.size)))
                ((first
                  | (go_at_call 44; rename (_ ∧ _) ∧ _ ∧ Below _ _ _ => hS; refine (Hiu.out _ ((Ht.out.on Hbr2.out).on (hS.2.2.mono (by have := Hbr2.out.size; omega)))).mono ?_; rintro e w' ⟨rfl, hb⟩)
                  | (go_at_call 44; rename (_ ∧ _) ∧ _ ∧ Below _ _ _ => hS; refine (Hiv.out _ ((Ht.out.on Hbr2.out).on (hS.2.2.mono (by have := Hbr2.out.size; omega)))).mono ?_; rintro e w' ⟨rfl, hb⟩)))
              all_goals (rename (_ ∧ _) ∧ _ ∧ Below _ _ _ => hS; have HS := Lib.hid hS; clear hS)
              all_goals (go_wp2_with fail; go_meet; exact ⟨rfl, HS.out.2.2⟩)
            case rest =>
              obtain ⟨rfl, hbc⟩ := hcut
              have hzc := hbc.size
              have Hoc := Lib.hid (own_below Hown2.out hbc (Nat.le_refl _))
              have Hbc := Lib.hid (Hbr2.out.trans (hbc.mono (by have := Hbr2.out.size; omega)))
              have hsz4 : S4.size ≤ 100 := by
                rw [HS4.out, strOf_size]
                have hlu := Lib.itoa_length_le u hpm.1.1 hpm.1.2; have hlv := Lib.itoa_length_le v hpm.2.1 hpm.2.2
                rw [← Tx.digs_length] at hlu hlv
                simp [Tx.sign]; omega
              have hsb : w.heap.size ≤ wc.heap.size := Hbc.out.size
              clear hbc hst f1 f2 f3 f4
              go_wp2_with (at_builtin; refine Lib.wpList_append_own_string _ rfl _ _ 27 9 rfl w.heap.size 5 i8 descU8s descStr H8.out h80 h81 h82 _ bs.length (bs.map V8) rfl Hoc.out S4 rfl (by unfold maxLen; omega) (by omega) hsb ?_; intro v9 w9 hown9 hg9 _; have Hown9 := Lib.hid hown9; have Hg9 := Lib.hid (show World.grownBy _ w9 (Value.slice A1 bs.length cap1).ownBlock from hg9); clear hown9 hg9)
              go_roundw
              case rel =>
                have hrf := Tx.rowF_change bs true u v
                have ho := Hown9.out
                rw [HS4.out, strCells_of, strOf_size, ← List.map_append, ← List.length_append, ← hrf] at ho
                have hlen : (Tx.rowF (bs ++ Tx.sign true) [u, v]).length = bs.length + S4.size := by rw [hrf, List.length_append, HS4.out, strOf_size]
                have hlu := Lib.itoa_length_le u hpm.1.1 hpm.1.2; have hlv := Lib.itoa_length_le v hpm.2.1 hpm.2.2
                have hl2 := Tx.rowF2_length (bs ++ Tx.sign true) u v hlu hlv
                have hsl : (bs ++ Tx.sign true).length = bs.length + 1 := by simp [Tx.sign]
                rw [hsl] at hl2
                exact ⟨a + 1, Tx.rowF (bs ++ Tx.sign true) [u, v], by congr 1, ho, Hbc.out.grown Hg9.out hsb (fun x hx => (Hoc.out.lt x hx).1), by omega, by omega, Hrun2.out⟩
              case measure => simp [intOf]; omega
    · have hae : a = k := by omega
      subst hae
      have Hfin := Lib.hid (show Tx.pcF [] ps = (bs, 0) by rw [Hrun.out, List.drop_eq_nil_of_le (by rw [← Hk.out]; exact Nat.le_refl _)]; rfl)
      go_wp2_with fail
      go_ret2
      unfold PrintSaid
      rw [Hfin.out]
      exact ⟨_, _, rfl, Hown.out, Hbr.out⟩
end Go.Proofs.YtgoobadkbndfgaaDoor
