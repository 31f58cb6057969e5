/- copies of pairs and of changes -/
import Derived.Test.YtmeoafodcniliaaGreatDoorTxU
namespace Go.Proofs.YtmeoafodcniliaaGreatDoor.C4
open Go.RowKit
set_option linter.unusedSimpArgs false
set_option linter.unusedVariables false
def zerosP (n : Nat) : Array Value := madeCells (Value.agg #[.int .i64 0, .int .i64 0]).cells (n * 2)
theorem zerosP_size (n : Nat) : (zerosP n).size = n * 2 := by unfold zerosP; rw [size_madeCells]
theorem make0_P (c : Nat) (hc : c * 16 ≤ 140737488355328) (w : World) : (Instr.makeSlice 23 (.int .i64 0) (.int .i64 (c : Int))).run Tryz.prog w =
    .ok (.slice (some ⟨w.heap.size, 0, none⟩) 0 c) (w.alloc (.cells (zerosP c) 127)) := by
  obtain ⟨i0, hi, hz0, hz1, hz2⟩ := info_parts infoPa
  have := run_make (P := Tryz.prog) w 23 127 i0 _ descPas hi hz0 .i64 .i64 0 c (by omega) (by omega) (by rw [hz2]; omega) (by omega)
  rw [this, hz1]; rfl
set_option maxHeartbeats 4000000 in
set_option maxRecDepth 20000 in
theorem pairs_calls (A : Option Addr) (n cap B : Nat) (zs : List (Int × Int)) (w : World) (hn : n = zs.length) (hm : n ≤ 1000000) (hB : B ≤ w.heap.size) (hr : Rd w B A (pcs zs)) :
    Calls Tryz.prog 11 #[.slice A n cap] w fun e w' => ∃ A' cap', e = .returned (.slice A' n cap') ∧ w'.ownsRow w.heap.size 127 2 (.slice A' n cap') n (pcs zs) ∧ Below w.heap.size w w' := by
  obtain ⟨i0, hi, hz0, hz1, hz2⟩ := info_parts infoPa
  have hmk := make0_P n (by omega)
  have Hown := Lib.hid (World.ownsRow_made (base := w.heap.size) (e := 127) (size := 2) w (zerosP n) n (Nat.le_refl _) (by unfold maxLen; omega) (zerosP_size n))
  have Hr := Lib.hid hr
  have Hn := Lib.hid hn; clear hn hr
  have Hi := Lib.hid hi; clear hi
  go_enter Tryz.func11, Tryz.ntmps11
  go_wp2_with fail
  go_loopw [3, 4] (fun l i wr => ∃ (a : Nat) (L : List (Int × Int)), i = .int .i64 (a : Int) ∧ a ≤ n ∧ L = zs.take a ∧ wr.ownsRow w.heap.size 127 2 l a (pcs L) ∧ Below w.heap.size w wr) (fun _ i _ => n - (intOf i).toNat)
  case atStart => exact ⟨0, [], rfl, by omega, by simp, Hown.out, (Below.refl _ _).alloc (Nat.le_refl _) _⟩
  case round =>
    obtain ⟨a, L, rfl, ha, hL, hown, hbl⟩ := hrel
    obtain ⟨A1, cap1, rfl⟩ := own_size hown
    have HL := Lib.hid hL; have Hown1 := Lib.hid hown; have Hbl := Lib.hid hbl
    have hsz := hbl.size
    clear hL hown hbl
    by_cases hlt : a < n
    · have q1 : (a : Int) < (n : Int) := by omega
      obtain ⟨z, hz⟩ : ∃ z, zs[a]? = some z := ⟨zs[a]'(by rw [← Hn.out]; omega), List.getElem?_eq_getElem _⟩
      obtain ⟨b, off, rfl, hb, hc1, hc2⟩ := rd_pair (Hr.out.below Hbl.out hB) hz
      have Hz := Lib.hid hz
      have hbn : Below wr.heap.size wr (wr.alloc (.cells #[.int .i64 z.1, .int .i64 z.2] 127)) := (Below.refl _ _).alloc (Nat.le_refl _) _
      have Hown2 := Lib.hid (own_below_s Hown1.out hbn (Nat.le_refl _))
      have Hnew := Lib.hid (rd_new wr [.int .i64 z.1, .int .i64 z.2] #[.int .i64 z.1, .int .i64 z.2] 127 rfl)
      have hsb : w.heap.size ≤ (wr.alloc (.cells #[.int .i64 z.1, .int .i64 z.2] 127)).heap.size := by simp; omega
      clear hz hbn
      go_wp2_with (at_builtin; refine wpList_append_rds rfl _ _ 23 rfl w.heap.size 127 i0 _ 2 16 descPas Hi.out hz0 hz1 hz2 rfl (by decide) _ a (pcs L) rfl Hown2.out _ (some ⟨wr.heap.size, 0, none⟩) 1 1 [.int .i64 z.1, .int .i64 z.2] rfl rfl (by intro h; cases h) Hnew.out (by intro u hu; simp at hu; rcases hu with rfl | rfl <;> rfl) (by unfold maxLen; omega) (by omega) hsb ?_; intro v4 w4 hown4 hg4; obtain ⟨A4, cap4, rfl⟩ := own_size hown4; have Hown4 := Lib.hid hown4; have Hg4 := Lib.hid (show World.grownBy _ w4 (Value.slice A1 a cap1).ownBlock from hg4); clear hown4 hg4)
      go_roundw
      case rel =>
        have hLz : L ++ [z] = zs.take (a + 1) := by rw [HL.out, List.take_add_one, Hz.out]; rfl
        refine ⟨a + 1, _, by congr 1, by omega, hLz, ?_, (Hbl.out.trans (((Below.refl wr.heap.size wr).alloc (Nat.le_refl _) _).mono hsz)).grown Hg4.out hsb fun k hk => (Hown2.out.lt k hk).1⟩
        rw [pcs_append]
        exact Hown4.out
      case measure => simp [intOf]; omega
    · obtain rfl : a = n := by omega
      have Hx := Lib.hid (show zs.take a = zs from List.take_of_length_le (by rw [← Hn.out]; exact Nat.le_refl _))
      go_wp2_with fail
      go_ret
      have ho := Hown1.out
      rw [HL.out, Hx.out] at ho
      exact ⟨A1, cap1, rfl, ho, Hbl.out⟩
def zerosC (n : Nat) : Array Value := madeCells (Value.agg #[.int .i64 0, .int .i64 0, .bool false]).cells (n * 3)
theorem zerosC_size (n : Nat) : (zerosC n).size = n * 3 := by unfold zerosC; rw [size_madeCells]
theorem make0_C (c : Nat) (hc : c * 24 ≤ 140737488355328) (w : World) : (Instr.makeSlice 54 (.int .i64 0) (.int .i64 (c : Int))).run Tryz.prog w =
    .ok (.slice (some ⟨w.heap.size, 0, none⟩) 0 c) (w.alloc (.cells (zerosC c) 130)) := by
  obtain ⟨i0, hi, hz0, hz1, hz2⟩ := info_parts infoCh
  have := run_make (P := Tryz.prog) w 54 130 i0 _ descChs hi hz0 .i64 .i64 0 c (by omega) (by omega) (by rw [hz2]; omega) (by omega)
  rw [this, hz1]; rfl
set_option maxHeartbeats 4000000 in
set_option maxRecDepth 20000 in
theorem changes_calls (A : Option Addr) (n cap B : Nat) (zs : List Tx.Ch) (w : World) (hn : n = zs.length) (hm : n ≤ 1000000) (hB : B ≤ w.heap.size) (hr : Rd w B A (chs zs)) :
    Calls Tryz.prog 71 #[.slice A n cap] w fun e w' => ∃ A' cap', e = .returned (.slice A' n cap') ∧ w'.ownsRow w.heap.size 130 3 (.slice A' n cap') n (chs zs) ∧ Below w.heap.size w w' := by
  obtain ⟨i0, hi, hz0, hz1, hz2⟩ := info_parts infoCh
  have hmk := make0_C n (by omega)
  have Hown := Lib.hid (World.ownsRow_made (base := w.heap.size) (e := 130) (size := 3) w (zerosC n) n (Nat.le_refl _) (by unfold maxLen; omega) (zerosC_size n))
  have Hr := Lib.hid hr
  have Hn := Lib.hid hn; clear hn hr
  have Hi := Lib.hid hi; clear hi
  go_enter Tryz.func71, Tryz.ntmps71
  go_wp2_with fail
  go_loopw [3, 4] (fun l i wr => ∃ (a : Nat) (L : List Tx.Ch), i = .int .i64 (a : Int) ∧ a ≤ n ∧ L = zs.take a ∧ wr.ownsRow w.heap.size 130 3 l a (chs L) ∧ Below w.heap.size w wr) (fun _ i _ => n - (intOf i).toNat)
  case atStart => exact ⟨0, [], rfl, by omega, by simp, Hown.out, (Below.refl _ _).alloc (Nat.le_refl _) _⟩
  case round =>
    obtain ⟨a, L, rfl, ha, hL, hown, hbl⟩ := hrel
    obtain ⟨A1, cap1, rfl⟩ := own_size hown
    have HL := Lib.hid hL; have Hown1 := Lib.hid hown; have Hbl := Lib.hid hbl
    have hsz := hbl.size
    clear hL hown hbl
    by_cases hlt : a < n
    · have q1 : (a : Int) < (n : Int) := by omega
      obtain ⟨z, hz⟩ : ∃ z, zs[a]? = some z := ⟨zs[a]'(by rw [← Hn.out]; omega), List.getElem?_eq_getElem _⟩
      obtain ⟨b, off, rfl, hb, hc1, hc2, hc3⟩ := rd_ch (Hr.out.below Hbl.out hB) hz
      have Hz := Lib.hid hz
      have hbn : Below wr.heap.size wr (wr.alloc (.cells #[.int .i64 z.u, .int .i64 z.v, .bool z.gone] 130)) := (Below.refl _ _).alloc (Nat.le_refl _) _
      have Hown2 := Lib.hid (own_below_s Hown1.out hbn (Nat.le_refl _))
      have Hnew := Lib.hid (rd_new wr [.int .i64 z.u, .int .i64 z.v, .bool z.gone] #[.int .i64 z.u, .int .i64 z.v, .bool z.gone] 130 rfl)
      have hsb : w.heap.size ≤ (wr.alloc (.cells #[.int .i64 z.u, .int .i64 z.v, .bool z.gone] 130)).heap.size := by simp; omega
      clear hz hbn
      go_wp2_with (at_builtin; refine wpList_append_rds rfl _ _ 54 rfl w.heap.size 130 i0 _ 3 24 descChs Hi.out hz0 hz1 hz2 rfl (by decide) _ a (chs L) rfl Hown2.out _ (some ⟨wr.heap.size, 0, none⟩) 1 1 [.int .i64 z.u, .int .i64 z.v, .bool z.gone] rfl rfl (by intro h; cases h) Hnew.out (by intro u hu; simp at hu; rcases hu with rfl | rfl | rfl <;> rfl) (by unfold maxLen; omega) (by omega) hsb ?_; intro v4 w4 hown4 hg4; obtain ⟨A4, cap4, rfl⟩ := own_size hown4; have Hown4 := Lib.hid hown4; have Hg4 := Lib.hid (show World.grownBy _ w4 (Value.slice A1 a cap1).ownBlock from hg4); clear hown4 hg4)
      go_roundw
      case rel =>
        have hLz : L ++ [z] = zs.take (a + 1) := by rw [HL.out, List.take_add_one, Hz.out]; rfl
        refine ⟨a + 1, _, by congr 1, by omega, hLz, ?_, (Hbl.out.trans (((Below.refl wr.heap.size wr).alloc (Nat.le_refl _) _).mono hsz)).grown Hg4.out hsb fun k hk => (Hown2.out.lt k hk).1⟩
        rw [chs_append]
        exact Hown4.out
      case measure => simp [intOf]; omega
    · obtain rfl : a = n := by omega
      have Hx := Lib.hid (show zs.take a = zs from List.take_of_length_le (by rw [← Hn.out]; exact Nat.le_refl _))
      go_wp2_with fail
      go_ret
      have ho := Hown1.out
      rw [HL.out, Hx.out] at ho
      exact ⟨A1, cap1, rfl, ho, Hbl.out⟩
end Go.Proofs.YtmeoafodcniliaaGreatDoor.C4
