/- pithref.Ints, SameInts; one element appended -/
import Derived.Test.YtmeoafodcniliaaGreatDoorHelp
import Derived.BigQuiet
import Derived.Deep.DeepCutAuto
import Derived.Deep.CutBlock
namespace Go.Proofs.YtmeoafodcniliaaGreatDoor
open Go.RowKit
set_option linter.unusedSimpArgs false
set_option linter.unusedVariables false
abbrev VI (z : Int) : Value := .int .i64 z
theorem rd_fresh (w : World) (g : Nat) (C : Array Value) (t : TypeId) (fr : Nat × Nat) (vs : List Value) (hg : g = w.heap.size) (h : C.toList = vs) : Rd (w.alloc (.cells C t fr)) (g + 1) (some ⟨g, 0, none⟩) vs := by
  subst hg
  intro k v hv
  refine ⟨w.heap.size, 0, rfl, by omega, ?_⟩
  rw [Nat.zero_add, World.cell?_alloc_mark, ← hv, ← h]; simp
theorem infoInt : (Tryz.prog.info? 3).map (fun i => (i.zero, i.size, i.bytes)) = some (some (.int .i64 0), 1, 8) := by kernel_rfl
theorem descInts : Tryz.prog.underlying 84 = some (.slice 3) := by kernel_rfl
theorem descInt : Tryz.prog.underlying 3 = some (.int .i64) := by kernel_rfl
theorem vi_one (zs : List Int) : ∀ u ∈ zs.map VI, u.oneCell' = true := by
  intro u hu; obtain ⟨b, _, rfl⟩ := List.mem_map.1 hu; rfl
def zerosI (n : Nat) : Array Value := madeCells (Value.int .i64 0).cells (n * 1)
theorem zerosI_size (n : Nat) : (zerosI n).size = n := by unfold zerosI; rw [size_madeCells]; omega
theorem make_int (l c : Nat) (hlc : l ≤ c) (hc : c * 8 ≤ 140737488355328) (w : World) : (Instr.makeSlice 84 (.int .i64 (l : Int)) (.int .i64 (c : Int))).run Tryz.prog w =
    .ok (.slice (some ⟨w.heap.size, 0, none⟩) l c) (w.alloc (.cells (zerosI c) 3)) := by
  obtain ⟨i0, hi, hz0, hz1, hz2⟩ := info_parts infoInt
  have := run_make (P := Tryz.prog) w 84 3 i0 _ descInts hi hz0 .i64 .i64 l c (by omega) (by omega) (by rw [hz2]; omega) (by omega)
  rw [this, hz1]; rfl
theorem make0_int (c : Nat) (hc : c * 8 ≤ 140737488355328) (w : World) : (Instr.makeSlice 84 (.int .i64 0) (.int .i64 (c : Int))).run Tryz.prog w =
    .ok (.slice (some ⟨w.heap.size, 0, none⟩) 0 c) (w.alloc (.cells (zerosI c) 3)) := make_int 0 c (by omega) hc w
theorem rd_get {w : World} {B : Nat} {A : Option Addr} {zs : List Int} (h : Rd w B A (zs.map VI)) {k : Nat} {z : Int} (hk : zs[k]? = some z) : ∃ b off, A = some ⟨b, off, none⟩ ∧ b < B ∧ w.cell? ⟨b, off + k, none⟩ = some (.int .i64 z) :=
  h k _ (by rw [List.getElem?_map, hk]; rfl)
set_option maxHeartbeats 1000000 in
theorem ints_calls (A : Option Addr) (n cap B : Nat) (zs : List Int) (w : World) (hn : n = zs.length) (hm : n ≤ 1099511627776) (hB : B ≤ w.heap.size) (hr : Rd w B A (zs.map VI)) :
    Calls Tryz.prog 36 #[.slice A n cap] w fun e w' => ∃ A' cap', e = .returned (.slice A' n cap') ∧ w'.ownsRow w.heap.size 3 1 (.slice A' n cap') n (zs.map VI) ∧ Below w.heap.size w w' := by
  obtain ⟨i0, hi, hz0, hz1, hz2⟩ := info_parts infoInt
  have hmk := make0_int n (by omega)
  have Hown := Lib.hid (World.ownsRow_made (base := w.heap.size) (e := 3) (size := 1) w (zerosI n) n (Nat.le_refl _) (by unfold maxLen; omega) (by rw [zerosI_size]; omega))
  have Hr := Lib.hid hr
  have Hn := Lib.hid hn; clear hn hr
  have Hi := Lib.hid hi; clear hi
  go_enter Tryz.func36, Tryz.ntmps36
  go_wp2_with fail
  go_loopw [3, 4] (fun l i wr => ∃ (a : Nat) (L : List Int), i = .int .i64 (a : Int) ∧ a ≤ n ∧ L = zs.take a ∧ wr.ownsRow w.heap.size 3 1 l a (L.map VI) ∧ Below w.heap.size w wr) (fun _ i _ => n - (intOf i).toNat)
  case atStart => exact ⟨0, [], rfl, by omega, by simp, Hown.out, (Below.refl _ _).alloc (Nat.le_refl _) _⟩
  case round =>
    obtain ⟨a, L, rfl, ha, hL, hown, hbl⟩ := hrel
    obtain ⟨A1, cap1, rfl, hc1, hm1, _⟩ := own_form hown
    have HL := Lib.hid hL; have Hown1 := Lib.hid hown; have Hbl := Lib.hid hbl
    have hsz := hbl.size
    clear hL hown hbl
    by_cases hlt : a < n
    · have q1 : (a : Int) < (n : Int) := by omega
      obtain ⟨z, hz⟩ : ∃ z, zs[a]? = some z := ⟨zs[a]'(by rw [← Hn.out]; omega), List.getElem?_eq_getElem _⟩
      obtain ⟨b, off, rfl, hb, hc⟩ := rd_get (Hr.out.below Hbl.out hB) hz
      have Hz := Lib.hid hz
      have Hown2 := Lib.hid (own_below Hown1.out ((Below.refl wr.heap.size wr).alloc (Nat.le_refl _) (.cells #[.int .i64 z] 3)) (Nat.le_refl _))
      clear hz
      go_wp2_with (at_builtin; refine wpList_append_rd rfl _ _ 84 rfl w.heap.size 3 i0 _ 8 descInts Hi.out hz0 hz1 hz2 rfl _ a (L.map VI) rfl Hown2.out _ (some ⟨wr.heap.size, 0, none⟩) 1 1 [.int .i64 z] rfl rfl (by intro h; cases h) (rd_fresh _ _ _ _ _ _ rfl rfl) (by intro u hu; simp at hu; subst hu; rfl) (by unfold maxLen; omega) (by omega) (by simp; omega) ?_)
      intro v4 w4 hown4 hg4
      have hLz : L ++ [z] = zs.take (a + 1) := by rw [HL.out, List.take_add_one, Hz.out]; rfl
      have e4 : L.map VI ++ [.int .i64 z] = (L ++ [z]).map VI := by simp
      rw [e4] at hown4
      obtain ⟨A4, cap4, rfl, hc4, hm4, _⟩ := own_form hown4
      have Hown4 := Lib.hid hown4
      have hb4 : Below w.heap.size w w4 := (Hbl.out.alloc hsz _).grown hg4 (by simp; omega) fun k hk => (Hown2.out.lt k hk).1
      have Hb4 := Lib.hid hb4; have HLz := Lib.hid hLz
      clear hown4 hg4 hb4 e4 hLz Hown2
      go_wp2_with fail
      exact ⟨⟨a + 1, _, by congr 1, by omega, HLz.out, Hown4.out, Hb4.out⟩, by simp [intOf]; omega⟩
    · obtain rfl : a = n := by omega
      have hx : zs.take a = zs := List.take_of_length_le (by rw [← Hn.out]; exact Nat.le_refl _)
      have Hx := Lib.hid hx; clear hx
      go_wp2_with fail
      go_ret
      rw [HL.out, Hx.out] at Hown1
      exact ⟨A1, cap1, rfl, Hown1.out, Hbl.out⟩
set_option maxHeartbeats 1000000 in
theorem sameI_calls (A A' : Option Addr) (n cap n' cap' B B' : Nat) (zs zs' : List Int) (w : World) (hn : n = zs.length) (hn' : n' = zs'.length) (hc : n ≤ cap) (hc' : n' ≤ cap') (hcm : cap ≤ maxLen) (hcm' : cap' ≤ maxLen) (hr : Rd w B A (zs.map VI)) (hr' : Rd w B' A' (zs'.map VI)) :
    Calls Tryz.prog 42 #[.slice A n cap, .slice A' n' cap'] w fun e w' => e = .returned (.bool (decide (zs = zs'))) ∧ ∃ k, w' = w.drewN k := by
  have Hn := Lib.hid hn; have Hr := Lib.hid hr; have Hn' := Lib.hid hn'; have Hr' := Lib.hid hr'
  unfold maxLen at hcm hcm'
  clear hn hr hn' hr'
  go_enter Tryz.func42, Tryz.ntmps42
  by_cases hnn : n = n'
  · subst hnn
    go_wp2_with fail
    go_loopw [5] (fun i wr => ∃ a : Nat, i = .int .i64 (a : Int) ∧ a ≤ n ∧ zs.take a = zs'.take a ∧ ∃ k, wr = w.drewN k) (fun i _ => n - (intOf i).toNat)
    case atStart => exact ⟨0, rfl, by omega, by simp, 0, rfl⟩
    case round =>
      obtain ⟨a, rfl, ha, he, hd⟩ := hrel
      have He := Lib.hid he; have Hd := Lib.hid hd; clear he hd
      by_cases hlt : a < n
      · have q1 : (a : Int) < (n : Int) := by omega
        obtain ⟨z, hz⟩ : ∃ z, zs[a]? = some z := ⟨zs[a]'(by rw [← Hn.out]; omega), List.getElem?_eq_getElem _⟩
        obtain ⟨z', hz'⟩ : ∃ z, zs'[a]? = some z := ⟨zs'[a]'(by rw [← Hn'.out]; omega), List.getElem?_eq_getElem _⟩
        obtain ⟨b, off, rfl, hb, hc1⟩ := rd_get (w := wr) (by obtain ⟨d, rfl⟩ := Hd.out; exact Hr.out) hz
        obtain ⟨b', off', rfl, hb', hc1'⟩ := rd_get (w := wr) (by obtain ⟨d, rfl⟩ := Hd.out; exact Hr'.out) hz'
        have Hz := Lib.hid hz; have Hz' := Lib.hid hz'
        clear hz hz'
        go_wp2_with fail
        go_quiet (fail)
        generalize hzb : (!(z == z')) = bb
        have Hzb := Lib.hid hzb; clear hzb
        have Hd2 := Lib.hid (show ∃ k, wr.drewN nq = w.drewN k by obtain ⟨d, rfl⟩ := Hd.out; exact ⟨_, World.drewN_drewN _ _ _⟩)
        cases bb with
        | false =>
          have hzz : z = z' := by simpa using Hzb.out
          subst hzz
          have He2 := Lib.hid (show zs.take (a + 1) = zs'.take (a + 1) by rw [List.take_add_one, List.take_add_one, He.out, Hz.out, Hz'.out])
          go_wp2_with fail
          exact ⟨⟨a + 1, by congr 1, by omega, He2.out, Hd2.out⟩, by simp [intOf]; omega⟩
        | true =>
          have hzz : ¬ z = z' := by simpa using Hzb.out
          have Hne := Lib.hid (show ¬ zs = zs' from fun h => by subst h; have := Hz.out.symm.trans Hz'.out; injection this with this; exact hzz this)
          clear hzz
          go_wp2_with fail
          go_ret
          exact ⟨by rw [decide_eq_false Hne.out]; rfl, Hd2.out⟩
      · have hza : zs = zs' := by
          have := He.out
          rwa [List.take_of_length_le (by rw [← Hn.out]; omega), List.take_of_length_le (by rw [← Hn'.out]; omega)] at this
        have Hza := Lib.hid hza; clear hza
        go_wp2_with fail
        go_ret
        exact ⟨by rw [decide_eq_true Hza.out]; rfl, Hd.out⟩
  · have hz : ((n : Int) != (n' : Int)) = true := by rw [bne_iff_ne]; omega
    have Hne := Lib.hid (show ¬ zs = zs' from fun h => hnn (by rw [Hn.out, Hn'.out, h]))
    clear hnn
    go_wp2_with fail
    go_ret
    exact ⟨by rw [decide_eq_false Hne.out]; rfl, 0, rfl⟩
end Go.Proofs.YtmeoafodcniliaaGreatDoor
