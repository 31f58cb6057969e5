/- pithref.Bools -/
import Derived.Test.YtjbidjidfkkikaaSpS
namespace Go.Proofs.Ytjbidjidfkkikaa
open Go.RowKit
set_option linter.unusedSimpArgs false
set_option linter.unusedVariables false
abbrev VB (b : Bool) : Value := .bool b
theorem infoBool : (Try.prog.info? 4).map (fun i => (i.zero, i.size, i.bytes)) = some (some (.bool false), 1, 1) := by kernel_rfl
theorem descBools : Try.prog.underlying 51 = some (.slice 4) := by kernel_rfl
theorem descBool : Try.prog.underlying 4 = some .bool := by kernel_rfl
theorem vb_one (zs : List Bool) : ∀ u ∈ zs.map VB, u.oneCell' = true := by
  intro u hu; obtain ⟨b, _, rfl⟩ := List.mem_map.1 hu; rfl
def zerosB (n : Nat) : Array Value := madeCells (Value.bool false).cells (n * 1)
theorem zerosB_size (n : Nat) : (zerosB n).size = n := by unfold zerosB; rw [size_madeCells]; simp [Value.cells]
theorem make_bool (l c : Nat) (hlc : l ≤ c) (hc : c ≤ 140737488355328) (w : World) : (Instr.makeSlice 51 (.int .i64 (l : Int)) (.int .i64 (c : Int))).run Try.prog w =
    .ok (.slice (some ⟨w.heap.size, 0, none⟩) l c) (w.alloc (.cells (zerosB c) 4)) := by
  obtain ⟨i0, hi, hz0, hz1, hz2⟩ := info_parts infoBool
  have := run_make (P := Try.prog) w 51 4 i0 _ descBools hi hz0 .i64 .i64 l c (by omega) (by omega) (by rw [hz2]; omega) (by omega)
  rw [this, hz1]; rfl
theorem make0_bool (c : Nat) (hc : c ≤ 140737488355328) (w : World) : (Instr.makeSlice 51 (.int .i64 0) (.int .i64 (c : Int))).run Try.prog w =
    .ok (.slice (some ⟨w.heap.size, 0, none⟩) 0 c) (w.alloc (.cells (zerosB c) 4)) := make_bool 0 c (by omega) hc w
theorem rd_getb {w : World} {B : Nat} {A : Option Addr} {zs : List Bool} (h : Rd w B A (zs.map VB)) {k : Nat} {z : Bool} (hk : zs[k]? = some z) : ∃ b off, A = some ⟨b, off, none⟩ ∧ b < B ∧ w.cell? ⟨b, off + k, none⟩ = some (.bool z) :=
  h k _ (by rw [List.getElem?_map, hk]; rfl)
set_option maxHeartbeats 1000000 in
theorem bools_calls (A : Option Addr) (n cap B : Nat) (zs : List Bool) (w : World) (hn : n = zs.length) (hm : n ≤ 140737488351232) (hB : B ≤ w.heap.size) (hr : Rd w B A (zs.map VB)) :
    Calls Try.prog 30 #[.slice A n cap] w fun e w' => ∃ A' cap', e = .returned (.slice A' n cap') ∧ w'.ownsRow w.heap.size 4 1 (.slice A' n cap') n (zs.map VB) ∧ Below w.heap.size w w' := by
  obtain ⟨i0, hi, hz0, hz1, hz2⟩ := info_parts infoBool
  have hmk := make0_bool n (by omega)
  have Hown := Lib.hid (World.ownsRow_made (base := w.heap.size) (e := 4) (size := 1) w (zerosB n) n (Nat.le_refl _) (by unfold maxLen; omega) (by rw [zerosB_size]; omega))
  have Hr := Lib.hid hr
  have Hn := Lib.hid hn; clear hn hr
  have Hi := Lib.hid hi; clear hi
  go_enter Try.func30, Try.ntmps30
  go_wp2_with fail
  go_loopw [3, 4] (fun l i wr => ∃ (a : Nat) (L : List Bool), i = .int .i64 (a : Int) ∧ a ≤ n ∧ L = zs.take a ∧ wr.ownsRow w.heap.size 4 1 l a (L.map VB) ∧ Below w.heap.size w wr) (fun _ i _ => n - (intOf i).toNat)
  case atStart => exact ⟨0, [], rfl, by omega, by simp, Hown.out, (Below.refl _ _).alloc (Nat.le_refl _) _⟩
  case round =>
    obtain ⟨a, L, rfl, ha, hL, hown, hbl⟩ := hrel
    obtain ⟨A1, cap1, rfl, hc1, hm1, _⟩ := own_form hown
    have HL := Lib.hid hL; have Hown1 := Lib.hid hown; have Hbl := Lib.hid hbl
    have hsz := hbl.size
    clear hL hown hbl
    by_cases hlt : a < n
    · have q1 : (a : Int) < (n : Int) := by omega
      obtain ⟨z, hz⟩ : ∃ z, zs[a]? = some z := ⟨zs[a]'(by rw [← Hn.out]; omega), List.getElem?_eq_getElem _⟩
      obtain ⟨b, off, rfl, hb, hc⟩ := rd_getb (Hr.out.below Hbl.out hB) hz
      have Hz := Lib.hid hz
      have Hown2 := Lib.hid (own_below Hown1.out ((Below.refl wr.heap.size wr).alloc (Nat.le_refl _) (.cells #[VB z] 4)) (Nat.le_refl _))
      clear hz
      go_wp2_with (at_builtin; refine wpList_append_rd rfl _ _ 51 rfl w.heap.size 4 i0 _ 1 descBools Hi.out hz0 hz1 hz2 rfl _ a (L.map VB) rfl Hown2.out _ (some ⟨wr.heap.size, 0, none⟩) 1 1 [VB z] rfl rfl (by intro h; cases h) (rd_fresh _ _ _ _ _ _ rfl rfl) (by intro u hu; simp at hu; subst hu; rfl) (by unfold maxLen; omega) (by omega) (by simp; omega) ?_)
      intro v4 w4 hown4 hg4
      have hLz : L ++ [z] = zs.take (a + 1) := by rw [HL.out, List.take_add_one, Hz.out]; rfl
      have e4 : L.map VB ++ [VB z] = (L ++ [z]).map VB := by simp
      rw [e4] at hown4
      obtain ⟨A4, cap4, rfl, hc4, hm4, _⟩ := own_form hown4
      have Hown4 := Lib.hid hown4
      have hb4 : Below w.heap.size w w4 := (Hbl.out.alloc hsz _).grown hg4 (by simp; omega) fun k hk => (Hown2.out.lt k hk).1
      have Hb4 := Lib.hid hb4; have HLz := Lib.hid hLz
      clear hown4 hg4 hb4 e4 hLz Hown2
      go_wp2_with fail
      exact ⟨⟨a + 1, _, by congr 1, by omega, HLz.out, Hown4.out, Hb4.out⟩, by simp [intOf]; omega⟩
    · obtain rfl : a = n := by omega
      have hx : zs.take a = zs := List.take_of_length_le (by rw [← Hn.out]; exact Nat.le_refl _)
      have Hx := Lib.hid hx; clear hx
      go_wp2_with fail
      go_ret
      rw [HL.out, Hx.out] at Hown1
      exact ⟨A1, cap1, rfl, Hown1.out, Hbl.out⟩
end Go.Proofs.Ytjbidjidfkkikaa
