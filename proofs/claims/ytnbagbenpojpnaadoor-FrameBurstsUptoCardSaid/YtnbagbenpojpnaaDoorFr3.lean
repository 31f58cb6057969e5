/- pithref3.four, pithref3.Encode -/
import Derived.Test.YtnbagbenpojpnaaDoorFr2
namespace Go.Proofs.YtnbagbenpojpnaaDoor
open Go.RowKit
set_option linter.unusedSimpArgs false
set_option linter.unusedVariables false
section
attribute [local go_sem ↓] n32_shl n32_shr
attribute [local go_sem] u32_signed n32to8
theorem four_calls (x : BitVec 32) (w : World) :
    Calls Tryd.prog 31 #[.int .u32 (n32 x)] w fun e w' => ∃ A' cap', e = .returned (.slice A' 4 cap') ∧ w'.ownsRow w.heap.size 5 1 (.slice A' 4 cap') 4 ((Crc.be x).map V8) ∧ Below w.heap.size w w' := by
  go_enter Tryd.func31, Tryd.ntmps31
  go_wp2_with fail
  go_ret
  refine ⟨_, _, rfl, own_lit w _ _ _ 4 (Nat.le_refl _) rfl (by unfold maxLen; omega), (Below.refl _ _).alloc (Nat.le_refl _) _⟩
end
theorem isK_range (k : Int) (h : isK k = true) : ¬ k < 1 ∧ ¬ 3 < k := by
  simp [isK] at h; omega
theorem isK_not (k : Int) (h : isK k = false) : k < 1 ∨ (¬ k < 1 ∧ 3 < k) := by
  simp [isK] at h; omega
set_option maxHeartbeats 1000000 in
theorem rencode_bad (k : Int) (A : Option Addr) (n cap : Nat) (w : World) (hk : isK k = false) :
    Calls Tryd.prog 14 #[VF k A n cap] w fun e w' => e = .returned (.tuple #[.slice none 0 0, .int .i64 30]) ∧ Below w.heap.size w w' := by
  rcases isK_not k hk with h | ⟨h1, h2⟩
  · clear hk
    go_enter Tryd.func14, Tryd.ntmps14
    go_wp2_with fail
    go_ret2
    exact ⟨rfl, (Below.refl _ _).alloc (Nat.le_refl _) _⟩
  · clear hk
    go_enter Tryd.func14, Tryd.ntmps14
    go_wp2_with fail
    go_ret2
    exact ⟨rfl, (Below.refl _ _).alloc (Nat.le_refl _) _⟩
set_option maxHeartbeats 1000000 in
theorem rencode_long (k : Int) (A : Option Addr) (n cap : Nat) (w : World) (hk : isK k = true) (hn : 1024 < n) :
    Calls Tryd.prog 14 #[VF k A n cap] w fun e w' => e = .returned (.tuple #[.slice none 0 0, .int .i64 31]) ∧ Below w.heap.size w w' := by
  have hn' : (1024 : Int) < (n : Int) := by omega
  obtain ⟨h1, h2⟩ := isK_range k hk
  clear hk
  go_enter Tryd.func14, Tryd.ntmps14
  go_wp2_with fail
  go_ret2
  exact ⟨rfl, (Below.refl _ _).alloc (Nat.le_refl _) _⟩
set_option maxHeartbeats 1000000 in
theorem rencode_good (k : Int) (kb : BitVec 8) (A : Option Addr) (n cap B : Nat) (bs : List (BitVec 8)) (w : World) (hk : isK k = true) (hkb : k = (n8 kb : Int)) (hn : n = bs.length) (hm : n ≤ 1024) (hnil : A = none → n = 0 ∧ cap = 0) (hr : Rd w B A (bs.map V8)) (hB : B ≤ w.heap.size) :
    Calls Tryd.prog 14 #[VF k A n cap] w fun e w' => ∃ A' cap', e = .returned (.tuple #[.slice A' (n + 12) cap', .int .i64 0]) ∧
      w'.ownsRow w.heap.size 5 1 (.slice A' (n + 12) cap') (n + 12) ((Fr.encode kb bs).map V8) ∧ Below w.heap.size w w' := by
  obtain ⟨h1, h2⟩ := isK_range k hk
  have h3 : IntKind.u8.wrap k = (n8 kb : Int) := by rw [hkb]; exact wrap_u8_toNat kb
  have hq : IntKind.u8.wrap ((n : Int) / 256) = (n8 (BitVec.ofNat 8 (n / 256)) : Int) := by
    rw [← byte_of_nat]; congr 1
  have hr2 : IntKind.u8.wrap ((n : Int) % 256) = (n8 (BitVec.ofNat 8 n) : Int) := by
    rw [← byte_of_nat, IntKind.wrap_u8', IntKind.wrap_u8']; omega
  obtain ⟨i0, hi, hz0, hz1, hz2⟩ := info_parts infoU8
  have Hi := Lib.hid hi; clear hi
  have Hr := Lib.hid hr; have Hn := Lib.hid hn; have Hnil := Lib.hid hnil
  clear hk hkb hr hn hnil
  go_enter Tryd.func14, Tryd.ntmps14
  go_wp2_with fail
  have hb0 := heap2_a w (Obj.cells #[Value.int IntKind.i64 k, Value.slice A n cap] 24) (Obj.cells #[.int .u8 112, V8 kb, V8 (BitVec.ofNat 8 (n / 256)), V8 (BitVec.ofNat 8 n)] 5)
  have hb1 := heap2_b w (Obj.cells #[Value.int IntKind.i64 k, Value.slice A n cap] 24) (Obj.cells #[.int .u8 112, V8 kb, V8 (BitVec.ofNat 8 (n / 256)), V8 (BitVec.ofNat 8 n)] 5)
  have hal : Below w.heap.size w ((w.alloc (Obj.cells #[Value.int IntKind.i64 k, Value.slice A n cap] 24)).alloc (Obj.cells #[.int .u8 112, V8 kb, V8 (BitVec.ofNat 8 (n / 256)), V8 (BitVec.ofNat 8 n)] 5)) :=
    ((Below.refl _ _).alloc (Nat.le_refl _) _).alloc (by simp) _
  have hown : ((w.alloc (Obj.cells #[Value.int IntKind.i64 k, Value.slice A n cap] 24)).alloc (Obj.cells #[.int .u8 112, V8 kb, V8 (BitVec.ofNat 8 (n / 256)), V8 (BitVec.ofNat 8 n)] 5)).ownsRow (w.heap.size + 1) 5 1 (.slice (some ⟨w.heap.size + 1, 0, none⟩) 4 4) 4 ((Fr.h4 kb n).map V8) := by
    have := own_lit (w.alloc (Obj.cells #[Value.int IntKind.i64 k, Value.slice A n cap] 24)) (w.heap.size + 1) 5 #[.int .u8 112, V8 kb, V8 (BitVec.ofNat 8 (n / 256)), V8 (BitVec.ofNat 8 n)] 4 (by simp) rfl (by unfold maxLen; omega)
    simp only [World.size_alloc] at this
    exact this
  generalize (w.alloc (Obj.cells #[Value.int IntKind.i64 k, Value.slice A n cap] 24)).alloc (Obj.cells #[.int .u8 112, V8 kb, V8 (BitVec.ofNat 8 (n / 256)), V8 (BitVec.ofNat 8 n)] 5) = w1 at *
  have s1 := lt_heap hb1
  have hc1 : w1.cell? ⟨w.heap.size, 1, none⟩ = some (.slice A n cap) := by rw [cell_heap hb0]; rfl
  have Hal := Lib.hid hal; have Hown := Lib.hid hown; have Hc1 := Lib.hid hc1
  clear hb0 hb1 hal hown hc1
  refine (rsum_calls _ 4 4 _ (Fr.h4 kb n) w1 rfl (by decide) (own_rd Hown.out)).mono ?_
  rintro e w' ⟨rfl, rfl⟩
  go_wp2_with fail
  refine (four_calls (Crc.sum (Fr.h4 kb n)) w1).mono ?_
  rintro e w2 ⟨A2, c2, rfl, hown2, hbb⟩
  have hs2 := hbb.size
  have Hown2 := Lib.hid hown2
  have Hb2 := Lib.hid (Hal.out.trans (hbb.mono (by omega)))
  have Hown12 := Lib.hid (own_below Hown.out hbb (Nat.le_refl _))
  have Hc2 : Hid (w2.cell? ⟨w.heap.size, 1, none⟩ = some (.slice A n cap)) := Lib.hid ((hbb.cell (p := ⟨w.heap.size, 1, none⟩) (show w.heap.size < _ by omega)).trans Hc1.out)
  clear hbb hown2
  go_wp2_with (at_builtin; refine wpList_append_rd rfl _ _ 22 rfl (w.heap.size + 1) 5 i0 _ 1 descU8s Hi.out hz0 hz1 hz2 rfl _ 4 ((Fr.h4 kb n).map V8) rfl Hown12.out _ A2 4 c2 ((Crc.be (Crc.sum (Fr.h4 kb n))).map V8) rfl rfl (own_nil Hown2.out) (own_rd Hown2.out) (v8_one _) (by unfold maxLen; omega) (by omega) (by omega) ?_)
  intro v3 w3 hown3 hg3
  rw [← List.map_append] at hown3
  obtain ⟨A3, c3, rfl, hc3, _, _⟩ := own_form hown3
  have hs3 := hg3.size
  have hb3 := grown_below Hown12.out hg3 (by omega)
  have Hb3 := Lib.hid (Hb2.out.trans (hb3.mono (by omega)))
  have c3' : w3.cell? ⟨w.heap.size, 1, none⟩ = some (.slice A n cap) := (hb3.cell (p := ⟨w.heap.size, 1, none⟩) (show w.heap.size < _ by omega)).trans Hc2.out
  have Hr3 := Lib.hid (Hr.out.below Hb3.out hB)
  have Hown3 := Lib.hid hown3
  clear hown3 hg3 hb3 Hown12 Hown2
  have Hln : Hid (n = (bs.map V8).length) := Lib.hid (by rw [List.length_map]; exact Hn.out)
  go_wp2_with (at_builtin; refine wpList_append_rd rfl _ _ 22 rfl (w.heap.size + 1) 5 i0 _ 1 descU8s Hi.out hz0 hz1 hz2 rfl _ (4 + 4) ((Fr.h4 kb n ++ Crc.be (Crc.sum (Fr.h4 kb n))).map V8) rfl Hown3.out _ A n cap (bs.map V8) rfl Hln.out Hnil.out Hr3.out (v8_one _) (by unfold maxLen; omega) (by omega) (by omega) ?_)
  intro v4 w4 hown4 hg4
  rw [← List.map_append] at hown4
  obtain ⟨A4, c4, rfl, hc4, _, _⟩ := own_form hown4
  have hs4 := hg4.size
  have hb4 := grown_below Hown3.out hg4 (by omega)
  have Hb4 := Lib.hid (Hb3.out.trans (hb4.mono (by omega)))
  have c4' : w4.cell? ⟨w.heap.size, 1, none⟩ = some (.slice A n cap) := (hb4.cell (p := ⟨w.heap.size, 1, none⟩) (show w.heap.size < _ by omega)).trans c3'
  have Hr4 := Lib.hid (Hr.out.below Hb4.out hB)
  have Hown4 := Lib.hid hown4
  clear hown4 hg4 hb4 Hown3 c3' Hr3
  go_wp2_with fail
  refine (rsum_calls A n cap _ bs w4 Hn.out (by unfold maxLen; omega) Hr4.out).mono ?_
  rintro e w' ⟨rfl, rfl⟩
  go_wp2_with fail
  refine (four_calls (Crc.sum bs) w4).mono ?_
  rintro e w5 ⟨A5, c5, rfl, hown5, hbb⟩
  have hs5 := hbb.size
  have Hown5 := Lib.hid hown5
  have Hb5 := Lib.hid (Hb4.out.trans (hbb.mono (by omega)))
  have Hown45 := Lib.hid (own_below Hown4.out hbb (Nat.le_refl _))
  clear hbb hown5
  go_wp2_with (at_builtin; refine wpList_append_rd rfl _ _ 22 rfl (w.heap.size + 1) 5 i0 _ 1 descU8s Hi.out hz0 hz1 hz2 rfl _ (4 + 4 + n) ((Fr.h4 kb n ++ Crc.be (Crc.sum (Fr.h4 kb n)) ++ bs).map V8) rfl Hown45.out _ A5 4 c5 ((Crc.be (Crc.sum bs)).map V8) rfl rfl (own_nil Hown5.out) (own_rd Hown5.out) (v8_one _) (by unfold maxLen; omega) (by omega) (by omega) ?_)
  intro v6 w6 hown6 hg6
  rw [← List.map_append] at hown6
  rw [show 4 + 4 + n + 4 = n + 12 by omega] at hown6
  obtain ⟨A6, c6, rfl, hc6, _, _⟩ := own_form hown6
  have Hb6 := Lib.hid (below_own Hb5.out Hown45.out hg6 (by omega) (by omega))
  have Hown6 := Lib.hid hown6
  clear hown6 hg6
  go_wp2_with fail
  go_ret2
  refine ⟨_, _, rfl, ?_, Hb6.out⟩
  have := own_base Hown6.out (show w.heap.size ≤ w.heap.size + 1 by omega)
  rw [Hn.out] at this ⊢
  exact this
end Go.Proofs.YtnbagbenpojpnaaDoor
