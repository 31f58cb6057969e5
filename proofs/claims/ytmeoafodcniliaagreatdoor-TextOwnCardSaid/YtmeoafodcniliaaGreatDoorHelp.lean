/- pithref.Bytes, SameBytes -/
import Derived.Test.YtmeoafodcniliaaGreatDoorProg
import Derived.Test.YtmeoafodcniliaaGreatDoorWords
namespace Go.Proofs.YtmeoafodcniliaaGreatDoor
open Go.RowKit
set_option linter.unusedSimpArgs false
set_option linter.unusedVariables false
theorem infoU8 : (Tryz.prog.info? 5).map (fun i => (i.zero, i.size, i.bytes)) = some (some (.int .u8 0), 1, 1) := by kernel_rfl
theorem descU8s : Tryz.prog.underlying 22 = some (.slice 5) := by kernel_rfl

/-- n cells of zero bytes. -/
def zeros8 (n : Nat) : Array Value := madeCells (Value.int .u8 0).cells (n * 1)
theorem zeros8_size (n : Nat) : (zeros8 n).size = n := by unfold zeros8; rw [size_madeCells]; omega
theorem make_u8 (l c : Nat) (hlc : l ≤ c) (hc : c ≤ 140737488355328) (w : World) : (Instr.makeSlice 22 (.int .i64 (l : Int)) (.int .i64 (c : Int))).run Tryz.prog w =
    .ok (.slice (some ⟨w.heap.size, 0, none⟩) l c) (w.alloc (.cells (zeros8 c) 5)) := by
  obtain ⟨i0, hi, hz0, hz1, hz2⟩ := info_parts infoU8
  have := run_make (P := Tryz.prog) w 22 5 i0 _ descU8s hi hz0 .i64 .i64 l c (by omega) (by omega) (by rw [hz2]; omega) (by omega)
  rw [this, hz1]; rfl
theorem make0_u8 (c : Nat) (hc : c ≤ 140737488355328) (w : World) : (Instr.makeSlice 22 (.int .i64 0) (.int .i64 (c : Int))).run Tryz.prog w =
    .ok (.slice (some ⟨w.heap.size, 0, none⟩) 0 c) (w.alloc (.cells (zeros8 c) 5)) := make_u8 0 c (by omega) hc w

set_option maxHeartbeats 400000 in
theorem bytes_calls (A : Option Addr) (n cap B : Nat) (bs : List (BitVec 8)) (w : World) (hn : n = bs.length) (hm : n ≤ 140737488351232) (hnil : A = none → n = 0 ∧ cap = 0) (hB : B ≤ w.heap.size) (hr : Rd w B A (bs.map V8)) :
    Calls Tryz.prog 10 #[.slice A n cap] w fun e w' => ∃ A' cap', e = .returned (.slice A' n cap') ∧ w'.ownsRow w.heap.size 5 1 (.slice A' n cap') n (bs.map V8) ∧ Below w.heap.size w w' := by
  obtain ⟨i0, hi, hz0, hz1, hz2⟩ := info_parts infoU8
  have hmk := make0_u8 n (by omega)
  have Hown := Lib.hid (World.ownsRow_made (base := w.heap.size) (e := 5) (size := 1) w (zeros8 n) n (Nat.le_refl _) (by unfold maxLen; omega) (by rw [zeros8_size]; omega))
  have Hr1 := Lib.hid (fun ad ha => rd_news (w := w.alloc (.cells (zeros8 n) 5)) (hr.below ((Below.refl w.heap.size w).alloc (Nat.le_refl _) _) hB) ad ha)
  have Hn := Lib.hid hn; clear hn hr
  have Hi := Lib.hid hi; clear hi
  have Hnil := Lib.hid hnil; clear hnil
  go_enter Tryz.func10, Tryz.ntmps10
  go_wp2_with (at_builtin; go_loud (refine wpList_append_fits_any _ rfl _ _ 22 rfl w.heap.size 5 i0 1 descU8s Hi.out hz1 w.heap.size 0 n [] rfl Hown.out A n cap (bs.map V8) rfl (by rw [List.length_map, ← Hn.out]; omega) Hnil.out Hr1.out (v8_one bs) (by omega) ?_); intro w2 hown2 hg2)
  go_ret
  refine ⟨_, _, rfl, ?_, ?_⟩
  · simpa using hown2
  · exact ((Below.refl w.heap.size w).alloc (Nat.le_refl _) _).grown hg2 (by simp) (by simp)
theorem descU8 : Tryz.prog.underlying 5 = some (.int .u8) := by kernel_rfl
theorem descStr : Tryz.prog.underlying 9 = some .string := by kernel_rfl
theorem str_run {w : World} {B : Nat} {A : Option Addr} {n cap : Nat} {bs : List (BitVec 8)} (hn : n = bs.length) (hnil : A = none → n = 0) (hr : Rd w B A (bs.map V8)) :
    (convert 22 9 (.slice A n cap)).run Tryz.prog w = .ok (.string (strOf bs)) w := run_bytes_str _ _ _ descU8s descU8 descStr hn hnil hr

set_option maxHeartbeats 400000 in
theorem same_calls (A A' : Option Addr) (n cap n' cap' B B' : Nat) (bs bs' : List (BitVec 8)) (w : World) (hn : n = bs.length) (hn' : n' = bs'.length) (hnil : A = none → n = 0) (hnil' : A' = none → n' = 0)
    (hr : Rd w B A (bs.map V8)) (hr' : Rd w B' A' (bs'.map V8)) :
    Calls Tryz.prog 29 #[.slice A n cap, .slice A' n' cap'] w fun e w' => e = .returned (.bool (decide (bs = bs'))) ∧ w = w' := by
  have h1 := str_run (cap := cap) hn hnil hr
  have h2 := str_run (cap := cap') hn' hnil' hr'
  clear hr hr' hn hn' hnil hnil'
  go_enter Tryz.func29, Tryz.ntmps29
  go_wp2
  go_ret
  exact ⟨by rw [← str_eq]; rfl, rfl⟩
end Go.Proofs.YtmeoafodcniliaaGreatDoor
