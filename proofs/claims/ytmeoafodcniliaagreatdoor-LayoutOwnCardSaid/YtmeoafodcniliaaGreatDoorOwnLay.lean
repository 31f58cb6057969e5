/- LayoutOwn: the walk -/
import Derived.Test.YtmeoafodcniliaaGreatDoorOwnLayA
namespace Go.Proofs.YtmeoafodcniliaaGreatDoor
open Go.ChangeShapes Go.WideShapes Go.ChangeAt Go.RowKit
open Bk (Row Is Sep Kept)
set_option linter.unusedSimpArgs false
set_option linter.unusedVariables false
set_option maxRecDepth 20000
attribute [local go_sem ↓] Bk.build_book Bk.box_book
set_option maxHeartbeats 8000000 in
theorem law_lay (N : Int) (A1 : Option Addr) (n1 c1 : Nat) (z1 : List Int) (A2 : Option Addr) (n2 c2 : Nat) (z2 : List Int) (s : Int) (A4 : Option Addr) (n4 c4 : Nat) (z4 : List Int) (w : World) (ha1 : InI w A1 n1 c1 z1) (ha2 : InI w A2 n2 c2 z2) (ha4 : InI w A4 n4 c4 z4) :
    Calls Tryz.prog 6 #[.int .i64 N, .slice A1 n1 c1, .slice A2 n2 c2, .int .i64 s, .slice A4 n4 c4] w fun e w' => e = .returned (.bool true) ∧ Below w.heap.size w w' := by
  obtain ⟨hn1, hc1, hcm1, hnil1, hr1, _⟩ := ha1
  obtain ⟨hn2, hc2, hcm2, hnil2, hr2, _⟩ := ha2
  obtain ⟨hn4, hc4, hcm4, hnil4, hr4, _⟩ := ha4
  have Hn1 := Lib.hid hn1; have Hr1 := Lib.hid hr1; have Hn2 := Lib.hid hn2; have Hr2 := Lib.hid hr2; have Hn4 := Lib.hid hn4; have Hr4 := Lib.hid hr4
  unfold maxLen at hcm1 hcm2 hcm4
  clear hn1 hr1 hn2 hr2 hn4 hr4 hnil1 hnil2 hnil4
  go_enter Tryz.func6, Tryz.ntmps6
  go_wp2_with fail
  refine (first_calls w).mono ?_
  rintro e w1 ⟨rfl, hb1⟩
  have HB1 := Lib.hid hb1
  have hs1 := hb1.size
  clear hb1
  by_cases hg1 : (2000 : Int) < (n1 : Int)
  · go_wp2_with fail
    go_ret
    exact ⟨rfl, HB1.out⟩
  by_cases hg2 : (2000 : Int) < (n2 : Int)
  · go_wp2_with fail
    go_ret
    exact ⟨rfl, HB1.out⟩
  by_cases hg4 : (60 : Int) < (n4 : Int)
  · go_wp2_with fail
    go_ret
    exact ⟨rfl, HB1.out⟩
  go_wp2_with fail
  obtain ⟨w2, hw2⟩ : ∃ x, x = w1.alloc (.cells Bk.book0 44) := ⟨_, rfl⟩
  have HI2 := Lib.hid (show Is Bk.usedL w2 w1.heap.size (fun g => g = w1.heap.size) 0 by rw [hw2]; exact Is.new Bk.usedL w1)
  have HB2 := Lib.hid (HB1.out.trans (show Below w.heap.size w1 w2 by rw [hw2]; exact (Below.refl _ _).alloc hs1 _))
  rw [← hw2]
  clear hw2
  obtain ⟨kb, hkb⟩ : ∃ kb, kb = w1.heap.size := ⟨_, rfl⟩
  rw [← hkb] at HI2 ⊢
  have Hkb := Lib.hid (show w.heap.size ≤ kb by rw [hkb]; exact hs1)
  clear hkb
  obtain ⟨U0, hU0⟩ : ∃ U : Nat → Prop, U = fun g => g = kb := ⟨_, rfl⟩
  rw [← hU0] at HI2
  have HU := Lib.hid (show ∀ g, U0 g → w.heap.size ≤ g by rw [hU0]; intro g hg; rw [show g = kb from hg]; exact Hkb.out)
  clear hU0
  refine (ints_calls A1 n1 c1 w.heap.size z1 w2 Hn1.out (by omega) HB2.out.size (Hr1.out.below HB2.out (Nat.le_refl _))).mono ?_
  rintro e w3 ⟨P1, d1, rfl, hown, hb⟩
  have HI := Lib.hid (HI2.out.below hb)
  have HM := Lib.hid (Row.fresh hown HI2.out.ult)
  have HMb := Lib.hid (fun x hx => Nat.le_trans HB2.out.size (Bk.own_blk (g := x) hown hx).1)
  have HB := Lib.hid (HB2.out.trans (hb.mono HB2.out.size))
  clear hown hb HI2 HB2
  go_wp2_with fail
  refine (ints_calls A2 n2 c2 w.heap.size z2 w3 Hn2.out (by omega) HB.out.size (Hr2.out.below HB.out (Nat.le_refl _))).mono ?_
  rintro e w4 ⟨P2, d2, rfl, hown, hb⟩
  have HL := Lib.hid (Row.fresh hown HI.out.ult)
  have HLb := Lib.hid (fun x hx => Nat.le_trans HB.out.size (Bk.own_blk (g := x) hown hx).1)
  have S12 := Lib.hid (Bk.sep_new HM.out.1 hown)
  have HI := Lib.hid (HI.out.below hb)
  have HM := Lib.hid (HM.out.below hb)
  have HB := Lib.hid (HB.out.trans (hb.mono HB.out.size))
  clear hown hb
  go_wp2_with fail
  refine (ints_calls A4 n4 c4 w.heap.size z4 w4 Hn4.out (by omega) HB.out.size (Hr4.out.below HB.out (Nat.le_refl _))).mono ?_
  rintro e w5 ⟨P4, d4, rfl, hown, hb⟩
  have HA := Lib.hid (Row.fresh hown HI.out.ult)
  have HAb := Lib.hid (fun x hx => Nat.le_trans HB.out.size (Bk.own_blk (g := x) hown hx).1)
  have S14 := Lib.hid (Bk.sep_new HM.out.1 hown)
  have S24 := Lib.hid (Bk.sep_new HL.out.1 hown)
  have HI := Lib.hid (HI.out.below hb)
  have HM := Lib.hid (HM.out.below hb)
  have HL := Lib.hid (HL.out.below hb)
  have HB := Lib.hid (HB.out.trans (hb.mono HB.out.size))
  clear hown hb
  obtain ⟨B0, hB0⟩ : ∃ b, b = w5.heap.size := ⟨_, rfl⟩
  have HM0 := Lib.hid (show ∀ x, (Value.slice P1 n1 d1).ownBlock = some x → x < B0 by rw [hB0]; exact fun x hx => (Bk.own_blk HM.out.1 hx).2)
  have HL0 := Lib.hid (show ∀ x, (Value.slice P2 n2 d2).ownBlock = some x → x < B0 by rw [hB0]; exact fun x hx => (Bk.own_blk HL.out.1 hx).2)
  have HA0 := Lib.hid (show ∀ x, (Value.slice P4 n4 d4).ownBlock = some x → x < B0 by rw [hB0]; exact fun x hx => (Bk.own_blk HA.out.1 hx).2)
  have H0 := Lib.hid (show B0 ≤ w5.heap.size by rw [hB0]; exact Nat.le_refl _)
  have H00 := Lib.hid (show w.heap.size ≤ B0 by rw [hB0]; exact HB.out.size)
  clear hB0
  go_wp2_with fail
  refine (New_calls N P1 n1 d1 w5.heap.size z1 w5 Hn1.out (by omega) (Bk.own_none HM.out.1) (Nat.le_refl _) (Bk.own_rd HM.out.1)).mono ?_
  intro e w6 hans
  obtain ⟨hb, p1, e1, rfl, hl1⟩ := new_lay hans H0.out HI.out.ult
  clear hans
  have HI := Lib.hid (HI.out.below hb)
  have HM := Lib.hid (HM.out.below hb)
  have HL := Lib.hid (HL.out.below hb)
  have HA := Lib.hid (HA.out.below hb)
  have HB := Lib.hid (HB.out.trans (hb.mono HB.out.size))
  have H0 := Lib.hid (Nat.le_trans H0.out hb.size)
  have L1 := Lib.hid hl1
  clear hl1 hb
  go_wp2_with fail
  refine (Even_calls N s w6).mono ?_
  intro e w7 hans
  obtain ⟨hb, p2, e2, rfl, hl1⟩ := even_lay hans H0.out HI.out.ult
  clear hans
  have HI := Lib.hid (HI.out.below hb)
  have HM := Lib.hid (HM.out.below hb)
  have HL := Lib.hid (HL.out.below hb)
  have HA := Lib.hid (HA.out.below hb)
  have L1 := Lib.hid ((L1.out.below hb).more hb.size)
  have HB := Lib.hid (HB.out.trans (hb.mono HB.out.size))
  have H0 := Lib.hid (Nat.le_trans H0.out hb.size)
  have L2 := Lib.hid hl1
  clear hl1 hb
  have Hc2 := Lib.hid (Bk.own_caps HL.out.1)
  go_wp2_with fail
  refine (Balanced_calls P2 n2 d2 w7.heap.size z2 s w7 Hn2.out Hc2.out.1 Hc2.out.2 (Nat.le_refl _) (Bk.own_rd HL.out.1)).mono ?_
  intro e w8 hans
  obtain ⟨hb, p3, e3, rfl, hl1⟩ := bal_lay hans H0.out HI.out.ult
  clear hans
  have HI := Lib.hid (HI.out.below hb)
  have HM := Lib.hid (HM.out.below hb)
  have HL := Lib.hid (HL.out.below hb)
  have HA := Lib.hid (HA.out.below hb)
  have L1 := Lib.hid ((L1.out.below hb).more hb.size)
  have L2 := Lib.hid ((L2.out.below hb).more hb.size)
  have HB := Lib.hid (HB.out.trans (hb.mono HB.out.size))
  have H0 := Lib.hid (Nat.le_trans H0.out hb.size)
  have L3 := Lib.hid hl1
  clear hl1 hb
  have Hal := Lib.hid (show Below w8.heap.size w8 (w8.alloc (.cells #[.pointer p1, .pointer p2, .pointer p3] 101)) from (Below.refl _ _).alloc (Nat.le_refl _) _)
  have Hag := Lib.hid (heap_alloc_new w8 (.cells #[.pointer p1, .pointer p2, .pointer p3] 101))
  go_wp2_with fail
  obtain ⟨w9, hw9⟩ : ∃ x, x = w8.alloc (.cells #[.pointer p1, .pointer p2, .pointer p3] 101) := ⟨_, rfl⟩
  rw [← hw9] at Hal Hag ⊢
  clear hw9
  generalize La.evenL N s s.toNat = ze at *
  generalize La.balL z2 s.toNat s.toNat = zb at *
  obtain ⟨P, hP0, hP1, hP2⟩ : ∃ P : Nat → Option Addr, P 0 = p1 ∧ P 1 = p2 ∧ P 2 = p3 := ⟨fun j => [p1, p2, p3].getD j none, rfl, rfl, rfl⟩
  obtain ⟨Z, hZ0, hZ1, hZ2⟩ : ∃ Z : Nat → List Int, Z 0 = z1 ∧ Z 1 = ze ∧ Z 2 = zb := ⟨fun j => [z1, ze, zb].getD j [], rfl, rfl, rfl⟩
  have HS := Lib.hid (show LSt w kb w8.heap.size B0 w8.heap.size n1 n2 n4 P Z (.slice P1 n1 d1) (.slice P2 n2 d2) (.slice P4 n4 d4) z1 z2 z4 (.slice none 0 0) 0 [] (4 * 0) U0 w9 from by
    refine ⟨HI.out.below Hal.out, ⟨World.ownsRow_nil _ _ _ _, by intro g hg; cases hg⟩, by rw [hP0, hP1, hP2]; exact Hag.out, fun h => by have := HI.out.ult _ h; omega, fun j hj => ?_, fun j hj => by omega, HM.out.below Hal.out, HL.out.below Hal.out, HA.out.below Hal.out, HU.out, HB.out.trans (Hal.out.mono HB.out.size), Hal.out.size, by intro g hg; cases hg⟩
    match j, hj with
    | 0, _ => rw [hP0, hZ0]; exact L1.out.below Hal.out
    | 1, _ => rw [hP1, hZ1]; exact L2.out.below Hal.out
    | 2, _ => rw [hP2, hZ2]; exact L3.out.below Hal.out)
  have HB01 := H0
  obtain ⟨B1, hB1⟩ : ∃ b, b = w8.heap.size := ⟨_, rfl⟩
  obtain ⟨ga, hga⟩ : ∃ b, b = w8.heap.size := ⟨_, rfl⟩
  have HS := Lib.hid (show LSt w kb ga B0 B1 n1 n2 n4 P Z (.slice P1 n1 d1) (.slice P2 n2 d2) (.slice P4 n4 d4) z1 z2 z4 (.slice none 0 0) 0 [] (4 * 0) U0 w9 by rw [hB1, hga]; exact HS.out)
  rw [← hB1] at HB01
  rw [← hga]
  clear hB1 hga hP0 hP1 hP2 hZ0 hZ1 hZ2 HI HM HL HA HB HU L1 L2 L3 H0 Hal Hag
  obtain ⟨i0, hi0, hz0, hz1, hz2⟩ := info_parts infoIL
  have Hi := Lib.hid hi0
  clear hi0
  go_loopw [23, 24] (fun rv iv wr => ∃ (i : Nat) (WR : List Value) (U : Nat → Prop), iv = .int .i64 (i : Int) ∧ i ≤ 3 ∧ LSt w kb ga B0 B1 n1 n2 n4 P Z (.slice P1 n1 d1) (.slice P2 n2 d2) (.slice P4 n4 d4) z1 z2 z4 rv i WR (4 * i) U wr) (fun _ iv _ => 3 - (intOf iv).toNat)
  case atStart => exact ⟨0, [], U0, rfl, by omega, HS.out⟩
  case round =>
    obtain ⟨i, WR, U, rfl, hi, hst⟩ := hrel
    obtain ⟨Ar, cr, rfl, _, _⟩ := Bk.own_hdr hst.was.1
    clear HS
    have HS := Lib.hid hst
    generalize wr = W0 at *
    clear hst
    by_cases hlt : i < 3
    · have q1 : (i : Int) < 3 := by omega
      have hcell := HS.out.cell hlt
      rcases HS.out.lay i hlt with hp | ⟨base, g, A, n, cap, N', hp, hlay, hgood, hB0, hUg, hUr⟩
      · rw [hp] at hcell
        clear HM0 HL0 HA0
        have hal := (show Below W0.heap.size W0 (W0.alloc (.cells #[.slice none 0 0] 84)) from (Below.refl _ _).alloc (Nat.le_refl _) _)
        have HSal := Lib.hid (HS.out.below hal)
        have Hrd0 := Lib.hid (Bk.rd_alloc W0 #[.slice none 0 0] 84 [.slice none 0 0] rfl)
        have Hwas := Lib.hid (show WasS U (W0.alloc (.cells #[.slice none 0 0] 84)) B0 (P i) (.slice none 0 0) (Z i) from .inl hp)
        clear hal
        go_wp2_with (at_builtin; refine Bk.wpList_append_two rfl _ _ 27 rfl 84 i0 _ 1 24 descIL Hi.out hz0 hz1 hz2 rfl (by decide) (.slice Ar i cr) i WR rfl HSal.out.was.1 (some ⟨W0.heap.size, 0, none⟩) 1 1 _ [.slice none 0 0] rfl (by decide) (by rfl) Hrd0.out (by intro u hu; simp at hu; subst hu; rfl) (by unfold maxLen; omega) (by omega) ?_; intro v9 a9 hown9 _ hK9 hblk9; obtain ⟨A9, c9, rfl, _, _⟩ := Bk.own_hdr hown9; have HS9 := Lib.hid (HSal.out.grow hown9 hK9 hblk9 Hwas.out); clear hown9 hK9 hblk9)
        exact ⟨⟨i + 1, WR ++ [.slice none 0 0], _, by congr 1, by omega, HS9.out.weak (by omega)⟩, by simp [intOf]; omega⟩
      · rw [hp] at hcell
        have hnz : n = (Z i).length := hlay.2.2.1
        have hn1k : n ≤ 1000 := by rw [hnz]; exact hgood.2.2.1
        have HT := Lib.hid (show LayT U W0 base g A n cap (Z i) from ⟨hlay, hUg, fun x hx => (hUr x hx).2⟩)
        have Hgood := Lib.hid hgood
        have Hp := Lib.hid hp
        have Hnz := Lib.hid hnz
        clear hlay hgood hUr hB0 hp hnz hUg
        go_wp2_with fail
        refine (Cuts_calls g A n cap base (Z i) W0 HT.out.1 (by omega)).mono ?_
        rintro e a1 ⟨Ax, cx, rfl, hown, hb⟩
        have HS := Lib.hid (HS.out.below hb)
        have HT := Lib.hid (HT.out.below hb)
        have Hx := Lib.hid (Bk.own_rd hown)
        clear hown hb
        go_wp2_with fail
        refine (ints_calls Ax n cx a1.heap.size (Z i) a1 Hnz.out (by omega) (Nat.le_refl _) Hx.out).mono ?_
        rintro e a2 ⟨Av, cv, rfl, hown, hb⟩
        have Hv := Lib.hid (Row.fresh hown HS.out.is.ult)
        have Hvl := Lib.hid (fun x hx => Nat.le_trans (Nat.le_trans HB01.out HS.out.b1) (Bk.own_blk (g := x) hown hx).1)
        have HS := Lib.hid (HS.out.below hb)
        have HT := Lib.hid (HT.out.below hb)
        clear hown hb Hx
        have hcell := HS.out.cell hlt
        rw [Hp.out] at hcell
        go_wp2_with fail
        refine (Cuts_calls g A n cap base (Z i) a2 HT.out.1 (by omega)).mono ?_
        rintro e b0 ⟨Ak0, ck0, rfl, hown, hb⟩
        have HSb := Lib.hid (HS.out.below hb)
        have Hown := Lib.hid hown
        have Hb := Lib.hid hb
        clear hown hb
        go_wp2_with fail
        refine (Bk.keepIs1 (by decide) 0 Ak0 n ck0 (Z i) b0 HSb.out.is (by omega) Hnz.out.symm (by omega) (Bk.own_zero Hown.out) (fun x hx hu => by have h1 := HS.out.is.ult x hu; have h2 := (Bk.own_blk Hown.out hx).1; omega)).mono ?_
        rintro e d10 ⟨rfl, hI, hK⟩
        have HS := Lib.hid (HS.out.step Hb.out Hown.out hI hK)
        have HT := Lib.hid (HT.out.step Hb.out Hown.out hK)
        have Hv := Lib.hid (Row.step (base := 0) Hv.out Hb.out Hown.out hK)
        clear hI hK HSb Hown Hb
        have hcell := HS.out.cell hlt
        rw [Hp.out] at hcell
        go_wp2_with fail
        refine (Of_calls g A n cap base (Z i) N' P4 n4 d4 d10.heap.size z4 d10 HT.out.1 Hgood.out Hn4.out (by omega) (Nat.le_refl _) (Bk.own_rd HS.out.r4.1)).mono ?_
        rintro e b1 ⟨Ak1, mk1, ck1, rfl, hmk1, hown, hb⟩
        have Hmk1 := Lib.hid hmk1
        clear hmk1
        have HSb := Lib.hid (HS.out.below hb)
        have Hown := Lib.hid hown
        have Hb := Lib.hid hb
        clear hown hb
        go_wp2_with fail
        refine (Bk.keepIs1 (by decide) 0 Ak1 mk1 ck1 (La.ofL (Z i) z4) b1 HSb.out.is (by omega) Hmk1.out.symm (by have := Hmk1.out; have := ofL_le (Z i) z4; have := Hnz.out; omega) (Bk.own_zero Hown.out) (fun x hx hu => by have h1 := HS.out.is.ult x hu; have h2 := (Bk.own_blk Hown.out hx).1; omega)).mono ?_
        rintro e d11 ⟨rfl, hI, hK⟩
        have HS := Lib.hid (HS.out.step Hb.out Hown.out hI hK)
        have HT := Lib.hid (HT.out.step Hb.out Hown.out hK)
        have Hv := Lib.hid (Row.step (base := 0) Hv.out Hb.out Hown.out hK)
        clear hI hK HSb Hown Hb
        have hcell := HS.out.cell hlt
        rw [Hp.out] at hcell
        go_wp2_with fail
        refine (Cuts_calls g A n cap base (Z i) d11 HT.out.1 (by omega)).mono ?_
        rintro e b2 ⟨Ak2, ck2, rfl, hown, hb⟩
        have HSb := Lib.hid (HS.out.below hb)
        have Hown := Lib.hid hown
        have Hb := Lib.hid hb
        clear hown hb
        go_wp2_with fail
        refine (Bk.keepIs1 (by decide) 0 Ak2 n ck2 (Z i) b2 HSb.out.is (by omega) Hnz.out.symm (by omega) (Bk.own_zero Hown.out) (fun x hx hu => by have h1 := HS.out.is.ult x hu; have h2 := (Bk.own_blk Hown.out hx).1; omega)).mono ?_
        rintro e d12 ⟨rfl, hI, hK⟩
        have HS := Lib.hid (HS.out.step Hb.out Hown.out hI hK)
        have HT := Lib.hid (HT.out.step Hb.out Hown.out hK)
        have Hv := Lib.hid (Row.step (base := 0) Hv.out Hb.out Hown.out hK)
        clear hI hK HSb Hown Hb
        have hcell := HS.out.cell hlt
        rw [Hp.out] at hcell
        go_wp2_with fail
        refine (Of_calls g A n cap base (Z i) N' P4 n4 d4 d12.heap.size z4 d12 HT.out.1 Hgood.out Hn4.out (by omega) (Nat.le_refl _) (Bk.own_rd HS.out.r4.1)).mono ?_
        rintro e b3 ⟨Ak3, mk3, ck3, rfl, hmk3, hown, hb⟩
        have Hmk3 := Lib.hid hmk3
        clear hmk3
        have HSb := Lib.hid (HS.out.below hb)
        have Hown := Lib.hid hown
        have Hb := Lib.hid hb
        clear hown hb
        go_wp2_with fail
        refine (Bk.keepIs1 (by decide) 0 Ak3 mk3 ck3 (La.ofL (Z i) z4) b3 HSb.out.is (by omega) Hmk3.out.symm (by have := Hmk3.out; have := ofL_le (Z i) z4; have := Hnz.out; omega) (Bk.own_zero Hown.out) (fun x hx hu => by have h1 := HS.out.is.ult x hu; have h2 := (Bk.own_blk Hown.out hx).1; omega)).mono ?_
        rintro e d13 ⟨rfl, hI, hK⟩
        have HS := Lib.hid (HS.out.step Hb.out Hown.out hI hK)
        have HT := Lib.hid (HT.out.step Hb.out Hown.out hK)
        have Hv := Lib.hid (Row.step (base := 0) Hv.out Hb.out Hown.out hK)
        clear hI hK HSb Hown Hb
        have hcell := HS.out.cell hlt
        rw [Hp.out] at hcell
        have hal := (show Below d13.heap.size d13 (d13.alloc (.cells #[.slice Av n cv] 84)) from (Below.refl _ _).alloc (Nat.le_refl _) _)
        have HSal := Lib.hid (HS.out.below hal)
        have Hrd0 := Lib.hid (Bk.rd_alloc d13 #[.slice Av n cv] 84 [.slice Av n cv] rfl)
        have Hwas := Lib.hid (show WasS _ _ B0 (P i) (.slice Av n cv) (Z i) from .inr ⟨by rw [← Hnz.out]; exact Hv.out.below hal, Hvl.out⟩)
        clear hal
        go_wp2_with (at_builtin; refine Bk.wpList_append_two rfl _ _ 27 rfl 84 i0 _ 1 24 descIL Hi.out hz0 hz1 hz2 rfl (by decide) (.slice Ar i cr) i WR rfl HSal.out.was.1 (some ⟨d13.heap.size, 0, none⟩) 1 1 _ [.slice Av n cv] rfl (by decide) (by rfl) Hrd0.out (by intro u hu; simp at hu; subst hu; rfl) (by unfold maxLen; omega) (by omega) ?_; intro v9 a9 hown9 _ hK9 hblk9; obtain ⟨A9, c9, rfl, _, _⟩ := Bk.own_hdr hown9; have HS9 := Lib.hid (HSal.out.grow hown9 hK9 hblk9 Hwas.out); clear hown9 hK9 hblk9)
        exact ⟨⟨i + 1, WR ++ [.slice Av n cv], _, by congr 1, by omega, HS9.out.weak (by omega)⟩, by simp [intOf]; omega⟩
    · obtain rfl : i = 3 := by omega
      have HE := Lib.hid HS.out.ends
      have HM := Lib.hid HS.out.r1
      have HL := Lib.hid HS.out.r2
      have HA := Lib.hid HS.out.r4
      clear HS
      go_wp2_with fail
      refine (Bk.keepIs1 (by decide) 0 P1 n1 d1 z1 W0 HE.out.is (by omega) Hn1.out.symm (by omega) HM.out.1 HM.out.2).mono ?_
      rintro e k1 ⟨rfl, hI, hK⟩
      have HE := Lib.hid (HE.out.old HM.out HM0.out HMb.out hI hK)
      have HL := Lib.hid (HL.out.keep hK S12.out.symm)
      have HA := Lib.hid (HA.out.keep hK S14.out.symm)
      clear hI hK
      go_wp2_with fail
      refine (Bk.keepIs1 (by decide) 0 P2 n2 d2 z2 k1 HE.out.is (by omega) Hn2.out.symm (by omega) HL.out.1 HL.out.2).mono ?_
      rintro e k2 ⟨rfl, hI, hK⟩
      have HE := Lib.hid (HE.out.old HL.out HL0.out HLb.out hI hK)
      have HA := Lib.hid (HA.out.keep hK S24.out.symm)
      clear hI hK
      go_wp2_with fail
      refine (Bk.keepIs1 (by decide) 0 P4 n4 d4 z4 k2 HE.out.is (by omega) Hn4.out.symm (by omega) HA.out.1 HA.out.2).mono ?_
      rintro e k3 ⟨rfl, hI, hK⟩
      have HE := Lib.hid (HE.out.old HA.out HA0.out HAb.out hI hK)
      clear hI hK
      go_wp2_with fail
      refine (Bk.finish_calls Bk.allL Bk.usedL_ok k3 HE.out.is (by omega)).mono ?_
      rintro e k4 ⟨rfl, hK⟩
      have HF := Lib.hid (HE.out.finish hK)
      clear hK HE
      go_wp2_with fail
      go_loopw [27] (fun iv wr => ∃ i : Nat, iv = .int .i64 (i : Int) ∧ i ≤ 3 ∧ Below k4.heap.size k4 wr) (fun iv _ => 3 - (intOf iv).toNat)
      case atStart => exact ⟨0, rfl, by omega, Below.refl _ _⟩
      case round =>
        obtain ⟨i, rfl, hi, hbl⟩ := hrel
        have Hbl := Lib.hid hbl
        clear hbl
        generalize wr = W1 at *
        have hall := (Hbl.out.block ga (lt_heap HF.out.2.1)).trans HF.out.2.1
        by_cases hlt : i < 3
        · have q1 : (i : Int) < 3 := by omega
          have hcell : W1.cell? ⟨ga, i, none⟩ = some (.pointer (P i)) := by
            rw [cell_heap hall]
            match i, hlt with
            | 0, _ => rfl
            | 1, _ => rfl
            | 2, _ => rfl
          clear hall
          rcases HF.out.2.2.1 i hlt with hp | ⟨base, g, A, n, cap, N', hp, hlay, hgood, hB0, hUg, hUr⟩
          · rw [hp] at hcell
            go_wp2_with fail
            exact ⟨⟨i + 1, by congr 1, by omega, Hbl.out⟩, by simp [intOf]; omega⟩
          · obtain ⟨v, hWi, hv⟩ := HF.out.2.2.2.1 i hlt
            rcases hv with hv | hv
            · rw [hp] at hv; cases hv
            obtain ⟨m, hm⟩ : ∃ m, m = (Z i).length := ⟨_, rfl⟩
            have hnm : n = m := by rw [hm]; exact hlay.2.2.1
            rw [← hm] at hv
            subst hnm
            have hov := hv.1.1
            obtain ⟨Av, cv, rfl, hvc, hvcm⟩ := Bk.own_hdr hov
            obtain ⟨gr, cr2, hrv, _, _, hrlt⟩ := Bk.own_some HF.out.1 (by omega)
            injection hrv with e1 e2 e3
            subst e1
            subst e3
            have hcw := (Hbl.out.cell (p := ⟨gr, i, none⟩) hrlt).trans (Bk.own_cell HF.out.1 hWi)
            have Hlay := Lib.hid (hlay.below Hbl.out)
            have Hn := Lib.hid hm
            have Hn1k := Lib.hid hgood.2.2.1
            have hn1k : n ≤ 1000 := by have := hgood.2.2.1; omega
            have Hov := Lib.hid (Bk.own_below_any hov Hbl.out)
            have Hvc := Lib.hid hvc; have Hvcm := Lib.hid hvcm
            rw [hp] at hcell
            clear hlay hgood hB0 hUg hUr hp hm hv hov hWi hvc hvcm e2 hrlt
            go_wp2_with fail
            refine Bk.region_front2 (n := 10) (S := fun w' => w'.cell? ⟨ga, i, none⟩ = some (.pointer (some ⟨g, 0, none⟩)) ∧ w'.cell? ⟨gr, i, none⟩ = some (.slice Av n cv)) rfl rfl (by kernel_rfl) (by kernel_rfl) (by kernel_rfl) rfl (by kernel_rfl) ⟨hcell, hcw⟩ (fun hS0 => ?_)
            simp only [List.take_succ_cons, List.take_zero]
            refine Bk.takeD (i := 0) (some 151) (v := .slice (some ⟨ga, 0, none⟩) 3 3) rfl rfl (by kernel_rfl) (by kernel_rfl) (by kernel_rfl) (fun _ _ _ h => h) (Or.inl ⟨by rfl, fun w' hS => by (try dsimp only at hS); go_simp⟩) hS0 ?_
            simp only [Act.put, List.setIfInBounds_toArray, List.set_cons_zero, List.set_cons_succ]
            refine Bk.takeD (i := 1) (some 152) (v := .int .i64 (i : Int)) rfl rfl (by kernel_rfl) (by kernel_rfl) (by kernel_rfl) (fun _ _ _ h => h) (Or.inl ⟨by rfl, fun w' hS => by (try dsimp only at hS); go_simp⟩) hS0 ?_
            simp only [Act.put, List.setIfInBounds_toArray, List.set_cons_zero, List.set_cons_succ]
            refine Bk.takeD (i := 2) (some 153) (v := .pointer (some ⟨ga, i, none⟩)) rfl rfl (by kernel_rfl) (by kernel_rfl) (by kernel_rfl) (fun _ _ _ h => h) (Or.inl ⟨by rfl, fun w' hS => by (try dsimp only at hS); go_simp⟩) hS0 ?_
            simp only [Act.put, List.setIfInBounds_toArray, List.set_cons_zero, List.set_cons_succ]
            refine Bk.takeD (i := 3) (some 154) (v := .pointer (some ⟨g, 0, none⟩)) rfl rfl (by kernel_rfl) (by kernel_rfl) (by kernel_rfl) (fun _ _ _ h => h) (Or.inl ⟨by rfl, fun w' hS => by (try dsimp only at hS); go_simp⟩) hS0 ?_
            simp only [Act.put, List.setIfInBounds_toArray, List.set_cons_zero, List.set_cons_succ]
            refine Bk.takeD (i := 5) (some 156) (v := .slice (some ⟨gr, 0, none⟩) 3 cr) rfl rfl (by kernel_rfl) (by kernel_rfl) (by kernel_rfl) (fun _ _ _ h => h) (Or.inl ⟨by rfl, fun w' hS => by (try dsimp only at hS); go_simp⟩) hS0 ?_
            simp only [Act.put, List.setIfInBounds_toArray, List.set_cons_zero, List.set_cons_succ]
            refine Bk.takeD (i := 6) (some 157) (v := .int .i64 (i : Int)) rfl rfl (by kernel_rfl) (by kernel_rfl) (by kernel_rfl) (fun _ _ _ h => h) (Or.inl ⟨by rfl, fun w' hS => by (try dsimp only at hS); go_simp⟩) hS0 ?_
            simp only [Act.put, List.setIfInBounds_toArray, List.set_cons_zero, List.set_cons_succ]
            refine Bk.takeD (i := 7) (some 158) (v := .pointer (some ⟨gr, i, none⟩)) rfl rfl (by kernel_rfl) (by kernel_rfl) (by kernel_rfl) (fun _ _ _ h => h) (Or.inl ⟨by rfl, fun w' hS => by (try dsimp only at hS); go_simp⟩) hS0 ?_
            simp only [Act.put, List.setIfInBounds_toArray, List.set_cons_zero, List.set_cons_succ]
            refine Bk.takeD (i := 8) (some 159) (v := .slice Av n cv) rfl rfl (by kernel_rfl) (by kernel_rfl) (by kernel_rfl) (fun _ _ _ h => h) (Or.inl ⟨by rfl, fun w' hS => by (try dsimp only at hS); go_simp⟩) hS0 ?_
            simp only [Act.put, List.setIfInBounds_toArray, List.set_cons_zero, List.set_cons_succ]
            refine Bk.calD (i := 4) (some 155) (by kernel_rfl) rfl rfl rfl (f := 50) (args := #[.pointer (some ⟨g, 0, none⟩)]) (by go_simp) (Cuts_calls g A n cap base (Z i) W1.drew Hlay.out (by omega)) ?_
            rintro e x1 ⟨Ax, cx, rfl, hownx, hbx⟩
            have hb1 : Below W1.heap.size W1 x1 := (Below.refl _ _).drew.trans hbx
            have hcell1 := (hb1.cell (p := ⟨ga, i, none⟩) (Bk.cell_lt hcell)).trans hcell
            have hcw1 := (hb1.cell (p := ⟨gr, i, none⟩) (Bk.cell_lt hcw)).trans hcw
            refine ⟨_, rfl, ⟨hcell1, hcw1⟩, fun hS1 => ?_⟩
            simp only [Act.put, List.setIfInBounds_toArray, List.set_cons_zero, List.set_cons_succ]
            refine Bk.calD (i := 9) (some 160) (by kernel_rfl) rfl rfl rfl (f := 42) (args := #[.slice Ax n cx, .slice Av n cv]) (by go_simp) (sameI_calls Ax Av n cx n cv _ _ (Z i) (Z i) x1 Hn.out Hn.out (Bk.own_caps hownx).1 Hvc.out (Bk.own_caps hownx).2 Hvcm.out (Bk.own_rd hownx) (Bk.own_rd (Bk.own_below_any Hov.out hb1))) ?_
            rintro e x2 ⟨rfl, k, rfl⟩
            rw [decide_eq_true rfl]
            refine ⟨_, rfl, ⟨hcell1, hcw1⟩, fun hS2 => ?_⟩
            simp only [Act.put, List.setIfInBounds_toArray, List.set_cons_zero, List.set_cons_succ]
            refine wpAnyH_done (by kernel_rfl) ?_ _
            simp only [Bk.behind]
            clear hS0 hS1 hS2
            go_simp
            refine NoPanic.normal ?_
            have HB2 := Lib.hid (Hbl.out.trans ((show Below W1.heap.size W1 (x1.drewN k) from below_drewN hb1 k).mono Hbl.out.size))
            clear hcell hcw hcell1 hcw1 hownx hb1 hbx
            go_wp2_with fail
            exact ⟨⟨i + 1, by congr 1, by omega, HB2.out⟩, by simp [intOf]; omega⟩
        · obtain rfl : i = 3 := by omega
          clear hall
          have HB := Lib.hid (HF.out.2.2.2.2.trans (Hbl.out.mono HF.out.2.2.2.2.size))
          go_wp2_with fail
          refine (first_calls W1).mono ?_
          rintro e d13 ⟨rfl, hb⟩
          have HB := Lib.hid (HB.out.trans (hb.mono HB.out.size))
          clear hb
          go_wp2_with fail
          go_ret
          exact ⟨rfl, HB.out⟩
end Go.Proofs.YtmeoafodcniliaaGreatDoor
