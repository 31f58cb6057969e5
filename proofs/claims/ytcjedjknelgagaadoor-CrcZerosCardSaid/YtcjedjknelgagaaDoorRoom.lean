/- pithlaw2: room, still, behind -/
import Derived.Test.YtcjedjknelgagaaDoorHelp
namespace Go.Proofs.YtcjedjknelgagaaDoor
open Go.RowKit
set_option linter.unusedSimpArgs false
set_option linter.unusedVariables false
attribute [local go_sem ↓] n32_shl n32_shr
attribute [local go_sem] u32_signed n32to8

set_option maxHeartbeats 400000 in
theorem room_calls (A : Option Addr) (n cap B : Nat) (bs : List (BitVec 8)) (w : World) (hn : n = bs.length) (hm : n ≤ 65536) (hnil : A = none → n = 0 ∧ cap = 0) (hB : B ≤ w.heap.size) (hr : Rd w B A (bs.map V8)) :
    Calls Tryd.prog 15 #[.slice A n cap] w fun e w' => ∃ A' cap', e = .returned (.slice A' (n + 3) cap') ∧ w'.ownsRow w.heap.size 5 1 (.slice A' (n + 3) cap') (n + 3) ((bs ++ [201#8, 202#8, 203#8]).map V8) ∧ Below w.heap.size w w' := by
  obtain ⟨i0, hi, hz0, hz1, hz2⟩ := info_parts infoU8
  have HB := Lib.hid (bytes_calls A n cap B bs w hn (by omega) hnil hB hr)
  have Hi := Lib.hid hi; clear hi hr hn hnil hB
  go_enter Tryd.func15, Tryd.ntmps15
  go_wp2_with fail
  refine HB.out.mono ?_
  rintro e w1 ⟨A1, cap1, rfl, hown1, hb1⟩
  have Hown1 := Lib.hid hown1; have Hb1 := Lib.hid hb1
  have hs1 := hb1.size
  clear hown1 hb1
  go_wp2_with (at_builtin; refine wpList_append_own _ rfl _ _ 22 rfl w.heap.size 5 i0 _ 1 1 descU8s Hi.out hz0 hz1 hz2 rfl (by decide) _ n (bs.map V8) rfl (Hown1.out.alloc _) ⟨w1.heap.size, 0, none⟩ 3 3 [V8 201#8, V8 202#8, V8 203#8] rfl rfl ?c1 ?c2 ?c3 ?c4 ?c5 ?_)
  case c1 =>
    intro j u hj
    rw [Addr.add_lit, Nat.zero_add]
    rw [World.cell?_alloc_new]
    match j, hj with
    | 0, hj => exact hj
    | 1, hj => exact hj
    | 2, hj => exact hj
  case c2 => intro u hu; simp at hu; rcases hu with rfl | rfl | rfl <;> rfl
  case c3 => unfold maxLen; omega
  case c4 => omega
  case c5 => simp; omega
  intro v' w2 hown2 hg2 hv2
  obtain ⟨A2, cap2, rfl, hc2, hc3, hl2⟩ := own_form hown2
  go_wp2
  go_ret
  refine ⟨A2, cap2, rfl, ?_, ?_⟩
  · rw [List.map_append]; exact hown2
  · exact (Hb1.out.alloc hs1 _).grown hg2 (by simp; omega) (fun k hk => (Hown1.out.lt k hk).1)

set_option maxHeartbeats 400000 in
theorem behind_calls (A : Option Addr) (n cap B : Nat) (bs : List (BitVec 8)) (s : BitVec 32) (w : World) (hn : n = bs.length) (hm : n ≤ 65536) (hnil : A = none → n = 0 ∧ cap = 0) (hB : B ≤ w.heap.size) (hr : Rd w B A (bs.map V8)) :
    Calls Tryd.prog 24 #[.slice A n cap, .int .u32 (n32 s)] w fun e w' => ∃ A' cap', e = .returned (.slice A' (n + 4) cap') ∧
      w'.ownsRow w.heap.size 5 1 (.slice A' (n + 4) cap') (n + 4) ((bs ++ [(s >>> 24).setWidth 8, (s >>> 16).setWidth 8, (s >>> 8).setWidth 8, s.setWidth 8]).map V8) ∧ Below w.heap.size w w' := by
  obtain ⟨i0, hi, hz0, hz1, hz2⟩ := info_parts infoU8
  have HB := Lib.hid (bytes_calls A n cap B bs w hn (by omega) hnil hB hr)
  have Hi := Lib.hid hi; clear hi hr hn hnil hB
  go_enter Tryd.func24, Tryd.ntmps24
  go_wp2_with fail
  refine HB.out.mono ?_
  rintro e w1 ⟨A1, cap1, rfl, hown1, hb1⟩
  have Hown1 := Lib.hid hown1; have Hb1 := Lib.hid hb1
  have hs1 := hb1.size
  clear hown1 hb1
  go_wp2_with (at_builtin; refine wpList_append_own _ rfl _ _ 22 rfl w.heap.size 5 i0 _ 1 1 descU8s Hi.out hz0 hz1 hz2 rfl (by decide) _ n (bs.map V8) rfl (Hown1.out.alloc _) ⟨w1.heap.size, 0, none⟩ 4 4 [V8 ((s >>> 24).setWidth 8), V8 ((s >>> 16).setWidth 8), V8 ((s >>> 8).setWidth 8), V8 (s.setWidth 8)] rfl rfl ?c1 ?c2 ?c3 ?c4 ?c5 ?_)
  case c1 =>
    intro j u hj
    rw [Addr.add_lit, Nat.zero_add]
    rw [World.cell?_alloc_new]
    match j, hj with
    | 0, hj => exact hj
    | 1, hj => exact hj
    | 2, hj => exact hj
    | 3, hj => exact hj
  case c2 => intro u hu; simp at hu; rcases hu with rfl | rfl | rfl | rfl <;> rfl
  case c3 => unfold maxLen; omega
  case c4 => omega
  case c5 => simp; omega
  intro v' w2 hown2 hg2 hv2
  obtain ⟨A2, cap2, rfl, hc2, hc3, hl2⟩ := own_form hown2
  go_wp2
  go_ret
  refine ⟨A2, cap2, rfl, ?_, ?_⟩
  · rw [List.map_append]; exact hown2
  · exact (Hb1.out.alloc hs1 _).grown hg2 (by simp; omega) (fun k hk => (Hown1.out.lt k hk).1)
end Go.Proofs.YtcjedjknelgagaaDoor
