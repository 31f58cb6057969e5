/- SpiralOwn: the walk -/
import Derived.Test.YtmeoafodcniliaaGreatDoorOwnSpiA
import Derived.Test.YtmeoafodcniliaaGreatDoorC24b
namespace Go.Proofs.YtmeoafodcniliaaGreatDoor
open Go.ChangeShapes Go.WideShapes Go.ChangeAt Go.RowKit
open Bk (Row Is Sep Kept)
set_option linter.unusedSimpArgs false
set_option linter.unusedVariables false
set_option maxRecDepth 20000
attribute [local go_sem ↓] Bk.build_book Bk.box_book
set_option maxHeartbeats 8000000 in
theorem law_spi (A : Option Addr) (n cap : Nat) (zs : List Int) (w : World) (ha : InI w A n cap zs) :
    Calls Tryz.prog 7 #[.slice A n cap] w fun e w' => e = .returned (.bool true) ∧ Below w.heap.size w w' := by
  obtain ⟨hn, hc, hcm, hnil, hr, _⟩ := ha
  have Hn := Lib.hid hn; have Hr := Lib.hid hr
  unfold maxLen at hcm
  clear hn hr hnil
  obtain ⟨i0, hi0, hz0, hz1, hz2⟩ := info_parts infoInt
  have Hi := Lib.hid hi0
  clear hi0
  go_enter Tryz.func7, Tryz.ntmps7
  go_wp2_with fail
  refine (first_calls w).mono ?_
  rintro e w1 ⟨rfl, hb1⟩
  have HB1 := Lib.hid hb1
  have hs1 := hb1.size
  clear hb1
  by_cases hbig : (300 : Int) < (n : Int)
  · go_wp2_with fail
    go_ret
    exact ⟨rfl, HB1.out⟩
  have hn3 : n ≤ 300 := by omega
  go_wp2_with fail
  obtain ⟨w2, hw2⟩ : ∃ x, x = w1.alloc (.cells Bk.book0 44) := ⟨_, rfl⟩
  have HI2 := Lib.hid (show Is Bk.usedS w2 w1.heap.size (fun g => g = w1.heap.size) 0 by rw [hw2]; exact Is.new Bk.usedS w1)
  have HB2 := Lib.hid (HB1.out.trans (show Below w.heap.size w1 w2 by rw [hw2]; exact (Below.refl _ _).alloc hs1 _))
  rw [← hw2]
  clear hw2
  obtain ⟨kb, hkb⟩ : ∃ kb, kb = w1.heap.size := ⟨_, rfl⟩
  rw [← hkb] at HI2 ⊢
  have Hkb := Lib.hid (show w.heap.size ≤ kb by rw [hkb]; exact hs1)
  clear hkb
  obtain ⟨U0, hU0⟩ : ∃ U : Nat → Prop, U = fun g => g = kb := ⟨_, rfl⟩
  rw [← hU0] at HI2
  have HU := Lib.hid (show ∀ g, U0 g → w.heap.size ≤ g by rw [hU0]; intro g hg; rw [show g = kb from hg]; exact Hkb.out)
  clear hU0
  refine (ints_calls A n cap w.heap.size zs w2 Hn.out (by omega) HB2.out.size (Hr.out.below HB2.out (Nat.le_refl _))).mono ?_
  rintro e w3 ⟨P1, d1, rfl, hown, hb⟩
  have Hown := Lib.hid (own_below hown ((Below.refl w3.heap.size w3).alloc (Nat.le_refl _) (.cells #[.int .i64 47, .int .i64 11] 3)) (Nat.le_refl _))
  have HI := Lib.hid (HI2.out.below hb)
  have HB := Lib.hid (HB2.out.trans (hb.mono HB2.out.size))
  have Hs3 := Lib.hid hb.size
  have Hal := Lib.hid (show Below w3.heap.size w3 (w3.alloc (.cells #[.int .i64 47, .int .i64 11] 3)) from (Below.refl _ _).alloc (Nat.le_refl _) _)
  clear hown hb
  go_wp2_with (at_builtin; refine wpList_append_rd rfl _ _ 84 rfl w2.heap.size 3 i0 _ 8 descInts Hi.out hz0 hz1 hz2 rfl _ n (zs.map VI) rfl Hown.out _ (some ⟨w3.heap.size, 0, none⟩) 2 2 [.int .i64 47, .int .i64 11] rfl rfl (by intro h; cases h) (rd_fresh _ _ _ _ _ _ rfl rfl) (by intro u hu; simp at hu; rcases hu with rfl | rfl <;> rfl) (by unfold maxLen; omega) (by omega) (by have := Hs3.out; simp; omega) ?_)
  intro mv w4 hown4 hg4
  have HU2 := Lib.hid (show ∀ g, U0 g → g < w2.heap.size from HI2.out.ult)
  have HI := Lib.hid ((HI.out.below Hal.out).kept (Kept.grown hg4) (fun g hg he => by have h1 := HU2.out g hg; have h2 := (Hown.out.lt g he).1; omega))
  have hb4 : Below w2.heap.size w3 w4 := ((Below.refl _ _).alloc Hs3.out _).grown hg4 (by have := Hs3.out; simp; omega) (fun k hk => (Hown.out.lt k hk).1)
  have HB := Lib.hid (HB.out.trans (hb4.mono HB2.out.size))
  have HM := Lib.hid (show Row U0 w4 3 1 mv (n + 2) ((zs ++ [47, 11]).map VI) from ⟨by have := Bk.own_zero hown4; simpa using this, fun g hg hu => by have h1 := HU2.out g hu; have h2 := (Bk.own_blk hown4 hg).1; omega⟩)
  have HMl := Lib.hid (show ∀ g, mv.ownBlock = some g → w.heap.size ≤ g from fun g hg => Nat.le_trans HB2.out.size (Bk.own_blk hown4 hg).1)
  obtain ⟨gm, cm, rfl, hcm1, hcm2, _⟩ := Bk.own_some HM.out.1 (by omega)
  have Hcm := Lib.hid (And.intro hcm1 hcm2)
  have hmk : (Instr.makeSlice 109 (.int .i64 ((n : Int) + 2)) (.int .i64 ((n : Int) + 2))).run Tryz.prog w4 = .ok (.slice (some ⟨w4.heap.size, 0, none⟩) (n + 2) (n + 2)) (w4.alloc (.cells (C24.zerosB (n + 2)) 4)) := by
    have := C24.make_bool (n + 2) (n + 2) (Nat.le_refl _) (by omega) w4
    push_cast at this
    exact this
  clear hown4 hg4 hb4 Hown Hal HI2 hcm1 hcm2
  go_wp2_with fail
  have hbk : Below w4.heap.size w4 (w4.alloc (.cells (C24.zerosB (n + 2)) 4)) := (Below.refl _ _).alloc (Nat.le_refl _) _
  have hown5 := own_zerosB w4 (n + 2) (by omega)
  have HS0 := Lib.hid (show SSt w kb n (.slice (some ⟨gm, 0, none⟩) (n + 2) cm) (.slice (some ⟨w4.heap.size, 0, none⟩) (n + 2) (n + 2)) zs (List.replicate (n + 2) false) (2 * 0) U0 (w4.alloc (.cells (C24.zerosB (n + 2)) 4)) from
    ⟨HI.out.below hbk, HM.out.below hbk, ⟨Bk.own_zero hown5, fun g hg hu => by have h1 := HI.out.ult g hu; have h2 := (Bk.own_blk hown5 hg).1; omega⟩, HU.out, HB.out.trans (hbk.mono HB.out.size), HMl.out, fun g hg => Nat.le_trans HB.out.size (Bk.own_blk hown5 hg).1, Hn.out.symm, by simp⟩)
  obtain ⟨gk, hgk⟩ : ∃ g, g = w4.heap.size := ⟨_, rfl⟩
  rw [← hgk] at HS0 ⊢
  clear hgk hbk hown5 hmk HI HB HM HMl HU HU2 Hs3 HB2 Hkb
  generalize w4.alloc (.cells (C24.zerosB (n + 2)) 4) = w5 at *
  go_loopw [8] (fun rv wr => ∃ (r : Nat) (zr : List Int) (K : List Bool) (U : Nat → Prop), rv = .int .i64 (r : Int) ∧ r ≤ 2 ∧ SSt w kb n (.slice (some ⟨gm, 0, none⟩) (n + 2) cm) (.slice (some ⟨gk, 0, none⟩) (n + 2) (n + 2)) zr K (2 * r) U wr) (fun rv _ => 2 - (intOf rv).toNat)
  case atStart => exact ⟨0, zs, _, U0, rfl, by omega, HS0.out⟩
  case round =>
    obtain ⟨r, zr, K, U, rfl, hr2, hst⟩ := hrel
    clear HS0
    have HS := Lib.hid hst
    clear hst
    generalize wr = W0 at *
    by_cases hlt : r < 2
    · have q1 : (r : Int) < 2 := by omega
      obtain ⟨L, er, hL, her, hsm, hP, hR⟩ := place_all zr (by rw [HS.out.lz]; omega)
      rw [HS.out.lz] at hL hP hR
      obtain ⟨l, hl⟩ : ∃ l, l = L.length := ⟨_, rfl⟩
      rw [← hl] at hL hP hR
      have Hl := Lib.hid hl; have HL := Lib.hid hL; have Her := Lib.hid her; have Hsm := Lib.hid hsm; have HP := Lib.hid hP; have HR := Lib.hid hR
      have hln : l ≤ n := by omega
      have hcn : n ≤ cm := by have := Hcm.out.1; omega
      have hcx : cm ≤ 9223372036854775807 := by have := Hcm.out.2; unfold maxLen at this; omega
      clear hl hL her hsm hP hR
      go_wp2_with fail
      refine (ints_calls (some ⟨gm, 0, none⟩) (n + 2) cm W0.heap.size (zr ++ [47, 11]) W0 (by have := HS.out.lz; simp; omega) (by omega) (Nat.le_refl _) (Bk.own_rd HS.out.mine.1)).mono ?_
      rintro e W1 ⟨Aw, cw, rfl, hown, hb⟩
      have HS := Lib.hid (HS.out.below hb)
      have Hw := Lib.hid hown
      clear hown hb
      go_wp2_with fail
      refine (HP.out (some ⟨gm, 0, none⟩) cm W1.heap.size W1 (Nat.le_refl _) (by have := rd_take (Bk.own_rd HS.out.mine.1) n; rw [take_zs HS.out.lz] at this; exact this)).mono ?_
      rintro e W2 ⟨Aa, ca, rfl, hown, hb⟩
      have HA := Lib.hid (Row.fresh hown HS.out.is.ult)
      have HAl := Lib.hid (fun x hx => Nat.le_trans HS.out.bel.size (Bk.own_blk (g := x) hown hx).1)
      have HAs := Lib.hid hown
      have Hw := Lib.hid (Bk.own_below_any Hw.out hb)
      have HS := Lib.hid (HS.out.below hb)
      clear hown hb
      go_wp2_with fail
      refine (HP.out (some ⟨gm, 0, none⟩) cm W2.heap.size W2 (Nat.le_refl _) (by have := rd_take (Bk.own_rd HS.out.mine.1) n; rw [take_zs HS.out.lz] at this; exact this)).mono ?_
      rintro e W3 ⟨Ab, cb, rfl, hown, hb⟩
      have HBr := Lib.hid (Row.fresh hown HS.out.is.ult)
      have HBl := Lib.hid (fun x hx => Nat.le_trans HS.out.bel.size (Bk.own_blk (g := x) hown hx).1)
      have HAB := Lib.hid (Bk.sep_new HA.out.1 hown)
      have HA := Lib.hid (HA.out.below hb)
      have Hw := Lib.hid (Bk.own_below_any Hw.out hb)
      have HS := Lib.hid (HS.out.below hb)
      clear hown hb HAs
      go_wp2_with fail
      refine (HR.out (some ⟨gm, 0, none⟩) cm W3.heap.size W3 (Nat.le_refl _) (by have := rd_take (Bk.own_rd HS.out.mine.1) n; rw [take_zs HS.out.lz] at this; exact this)).mono ?_
      rintro e W4 ⟨Am, c4, rfl, hown, hb⟩
      have Hm := Lib.hid (Bk.own_zero hown)
      have HA := Lib.hid (HA.out.below hb)
      have HBr := Lib.hid (HBr.out.below hb)
      have Hw := Lib.hid (Bk.own_below_any Hw.out hb)
      have HS := Lib.hid (HS.out.below hb)
      clear hown hb HP HR
      go_wp2_with fail
      refine (sameI_calls (some ⟨gm, 0, none⟩) Aw (n + 2) cm (n + 2) cw _ _ (zr ++ [47, 11]) (zr ++ [47, 11]) W4 (by have := HS.out.lz; simp; omega) (by have := HS.out.lz; simp; omega) Hcm.out.1 (Bk.own_caps Hw.out).1 Hcm.out.2 (Bk.own_caps Hw.out).2 (Bk.own_rd HS.out.mine.1) (Bk.own_rd Hw.out)).mono ?_
      rintro e W5 ⟨rfl, k5, rfl⟩
      rw [decide_eq_true rfl]
      have hb5 := Bk.drewN_below W4 k5
      have Hm := Lib.hid (Bk.own_below_any Hm.out hb5)
      have HA := Lib.hid (HA.out.below hb5)
      have HBr := Lib.hid (HBr.out.below hb5)
      have HS := Lib.hid (HS.out.below hb5)
      clear hb5 Hw
      generalize W4.drewN k5 = W5 at *
      go_wp2_with (first | (go_at_call 55; refine (num_calls er W5 Her.out.1 Her.out.2).mono ?_; rintro e w9 ⟨rfl, rfl⟩))
      go_loopw [17] (fun iv wr => ∃ (i : Nat) (K' : List Bool), iv = .int .i64 (i : Int) ∧ i ≤ l ∧ K'.length = n + 2 ∧ wr.ownsRow 0 4 1 (.slice (some ⟨gk, 0, none⟩) (n + 2) (n + 2)) (n + 2) (K'.map VB) ∧ Kept (fun g => (Value.slice (some ⟨gk, 0, none⟩) (n + 2) (n + 2)).ownBlock = some g) W5 wr) (fun iv _ => l - (intOf iv).toNat)
      case atStart => exact ⟨0, K, rfl, by omega, HS.out.lK, HS.out.keep.1, Kept.refl _ _⟩
      case round =>
        obtain ⟨i, K', rfl, hil, hK', hok, hkk⟩ := hrel
        have HK' := Lib.hid hK'; have Hok := Lib.hid hok; have Hkk := Lib.hid hkk
        clear hK' hok hkk
        by_cases hlt2 : i < l
        · have q2 : (i : Int) < (l : Int) := by omega
          obtain ⟨ga, c1, hv, _, _, hga⟩ := Bk.own_some HA.out.1 (by omega)
          injection hv with e1 e2 e3
          subst e1
          subst e3
          obtain ⟨gb, c2, hv, _, _, hgb⟩ := Bk.own_some HBr.out.1 (by omega)
          injection hv with e1 e2b e3
          subst e1
          subst e3
          obtain ⟨gc, c3, hv, _, _, hgc⟩ := Bk.own_some Hm.out (by omega)
          injection hv with e1 e2c e3
          subst e1
          subst e3
          obtain ⟨p, hp⟩ : ∃ p, L[i]? = some p := ⟨L[i]'(by have := Hl.out; omega), List.getElem?_eq_getElem _⟩
          have na : ga ≠ gk := fun he => by subst he; exact Bk.own_apart HA.out.1 HS.out.keep.1 (by decide) rfl rfl
          have nb : gb ≠ gk := fun he => by subst he; exact Bk.own_apart HBr.out.1 HS.out.keep.1 (by decide) rfl rfl
          have nc : gc ≠ gk := fun he => by subst he; exact Bk.own_apart Hm.out HS.out.keep.1 (by decide) rfl rfl
          have ca1 := (Hkk.out.cell (o := i) hga (fun he => by injection he with he; exact na he.symm)).trans (Bk.own_cell HA.out.1 (k := i) (u := VC (fp p)) (by rw [List.getElem?_map, List.getElem?_map, hp]; rfl))
          have cb1 := (Hkk.out.cell (o := i) hgb (fun he => by injection he with he; exact nb he.symm)).trans (Bk.own_cell HBr.out.1 (k := i) (u := VC (fp p)) (by rw [List.getElem?_map, List.getElem?_map, hp]; rfl))
          obtain ⟨s1, s2⟩ := C24.spc_get hp
          have cc1 := (Hkk.out.cell (o := i * 2) hgc (fun he => by injection he with he; exact nc he.symm)).trans (Bk.own_cell Hm.out s1)
          have cd1 := (Hkk.out.cell (o := i * 2 + 1) hgc (fun he => by injection he with he; exact nc he.symm)).trans (Bk.own_cell Hm.out s2)
          obtain ⟨px, py⟩ := p
          dsimp only [VC, fp] at ca1 cb1 cc1 cd1
          have ox := Bk.order_int px; have oy := Bk.order_int py
          have HN := Lib.hid (number_calls px py)
          generalize floatOfInt .f64 px = fx at *
          generalize floatOfInt .f64 py = fy at *
          clear s1 s2 hp hga hgb hgc e2 e2b e2c
          go_wp2_with fail
          have hst : (wr.drew.cell? ⟨ga, i, none⟩ = some (.complex .f64 fx fy) ∧ wr.drew.cell? ⟨gb, i, none⟩ = some (.complex .f64 fx fy) ∧ wr.drew.cell? ⟨gc, i * 2, none⟩ = some (.int .i64 px) ∧ wr.drew.cell? ⟨gc, i * 2 + 1, none⟩ = some (.int .i64 py)) ∧ Below wr.heap.size wr wr.drew := ⟨⟨ca1, cb1, cc1, cd1⟩, (Below.refl _ _).drew⟩
          go_region_held3 (fun w' => (w'.cell? ⟨ga, i, none⟩ = some (.complex .f64 fx fy) ∧ w'.cell? ⟨gb, i, none⟩ = some (.complex .f64 fx fy) ∧ w'.cell? ⟨gc, i * 2, none⟩ = some (.int .i64 px) ∧ w'.cell? ⟨gc, i * 2 + 1, none⟩ = some (.int .i64 py)) ∧ Below wr.heap.size wr w')
            ((rename (_ ∧ _) ∧ Below _ _ _ => hS; first
              | (with_reducible exact hS)
              | (exact hst)
              | (exact Bk.ut_keep hS hb2)
              | fail))
            ((first
              | (go_at_call 56; rename (_ ∧ _) ∧ Below _ _ _ => hS; refine (HN.out _).mono ?_; rintro e w2 ⟨rfl, hb2⟩)))
          rename (_ ∧ _) ∧ Below _ _ _ => hF
          have hbF := hF.2
          have hok2 := Bk.own_below_any Hok.out hbF
          have hKl : i < K'.length := by have := HK'.out; omega
          have hkc := Bk.own_cell hok2 (k := i) (u := VB (K'[i])) (by rw [List.getElem?_map, List.getElem?_eq_getElem hKl]; rfl)
          have hkf := Bk.own_frozen hok2 i
          have q4 : (i : Int) < (n : Int) + 2 := by omega
          have Hok2 := Lib.hid hok2
          have Hkk2 := Lib.hid (Hkk.out.trans (Kept.of_below (F := fun _ => False) hbF) (fun _ h => h.elim))
          have HKl := Lib.hid hKl
          generalize K'[i] = b0 at *
          clear hF hS hst hbF hok2 ca1 cb1 cc1 cd1 ox oy HN hb2 hKl
          go_wp2_with fail
          exact ⟨⟨i + 1, K'.set i ((i : Int) % 2 == (r : Int)), by congr 1, by omega, (by rw [List.length_set]; exact HK'.out), by rw [List.map_set]; exact Bk.own_set Hok2.out (by rw [List.length_map]; exact HKl.out) _, Hkk2.out.trans (Kept.set w2 gk i (.bool ((i : Int) % 2 == (r : Int)))) (fun x h => Or.inl (by subst h; rfl))⟩, by simp [intOf]; omega⟩
        · obtain rfl : i = l := by omega
          have HS2 := Lib.hid (HS.out.chK Hkk.out Hok.out HK'.out)
          have HA2 := Lib.hid (HA.out.kept Hkk.out (fun g hg he => Bk.own_apart HA.out.1 HS.out.keep.1 (by decide) hg he))
          have HB2 := Lib.hid (HBr.out.kept Hkk.out (fun g hg he => Bk.own_apart HBr.out.1 HS.out.keep.1 (by decide) hg he))
          clear HS HA HBr Hkk Hok HK' Hm hlt2 hil
          generalize wr = W6 at *
          obtain ⟨iC, hiC, hzC0, hzC1, hzC2⟩ := info_parts infoC
          have HiC := Lib.hid hiC
          clear hiC
          go_wp2_with fail
          refine (Bk.copyk4 Aa i ca W6.heap.size (L.map fp) W6 (by rw [List.length_map]; exact Hl.out.symm) (by omega) (Bk.own_nil1 HA2.out.1) (Bk.own_rd HA2.out.1) (Nat.le_refl _)).mono ?_
          rintro e W7 ⟨Ac, cc, rfl, hown, hb⟩
          have Hc0 := Lib.hid (Bk.own_below_any hown (show Below W7.heap.size W7 (W7.alloc (.cells #[.complex .f64 4619567317775286272 0, .complex .f64 4621256167635550208 0] 116)) from (Below.refl _ _).alloc (Nat.le_refl _) _))
          have Hb7 := Lib.hid hb
          have Hs7 := Lib.hid (show W6.heap.size ≤ (W7.alloc (.cells #[.complex .f64 4619567317775286272 0, .complex .f64 4621256167635550208 0] 116)).heap.size from Nat.le_trans hb.size (by simp))
          clear hown hb
          go_wp2_with (at_builtin; refine wpList_append_rd rfl _ _ 110 rfl W6.heap.size 116 iC _ 16 descCs HiC.out hzC0 hzC1 hzC2 rfl _ i ((L.map fp).map VC) rfl Hc0.out _ (some ⟨W7.heap.size, 0, none⟩) 2 2 [.complex .f64 4619567317775286272 0, .complex .f64 4621256167635550208 0] rfl rfl (by intro h; cases h) (rd_fresh _ _ _ _ _ _ rfl rfl) (by intro u hu; simp at hu; rcases hu with rfl | rfl <;> rfl) (by unfold maxLen; omega) (by omega) Hs7.out ?_)
          intro cv W8 hown8 hg8
          have hb8 : Below W6.heap.size W6 W8 := (Hb7.out.alloc Hb7.out.size _).grown hg8 Hs7.out (fun k hk => (Hc0.out.lt k hk).1)
          have HS3 := Lib.hid (HS2.out.below hb8)
          have HA3 := Lib.hid (HA2.out.below hb8)
          have HB3 := Lib.hid (HB2.out.below hb8)
          obtain ⟨gc, cl, rfl, hcl1, hcl2, _⟩ := Bk.own_some hown8 (by omega)
          have Hcv := Lib.hid (show W8.ownsRow 0 116 1 (.slice (some ⟨gc, 0, none⟩) (i + 2) cl) (i + 2) ((L.map fp ++ [(4619567317775286272, 0), (4621256167635550208, 0)]).map VC) by have := Bk.own_zero hown8; simpa using this)
          have hcl3 : i + 2 ≤ cl := hcl1
          unfold maxLen at hcl2
          have kn1 : ((K'.map VB)[n]?).isSome = true := by have := HS3.out.lK; simp; omega
          have kn2 : ((K'.map VB)[n + 1]?).isSome = true := by have := HS3.out.lK; simp; omega
          obtain ⟨u1, hu1⟩ := Option.isSome_iff_exists.1 kn1
          obtain ⟨u2, hu2⟩ := Option.isSome_iff_exists.1 kn2
          have kc1 := Bk.own_cell HS3.out.keep.1 hu1
          have kc2 := Bk.own_cell HS3.out.keep.1 hu2
          have kf1 := Bk.own_frozen HS3.out.keep.1 n
          have kf2 := Bk.own_frozen HS3.out.keep.1 (n + 1)
          have kc3 : ∀ u, (W8.setCell ⟨gk, n, none⟩ u).cell? ⟨gk, n + 1, none⟩ = some u2 := fun u => (World.cell?_setCell_other _ _ _ _ (by intro h; injection h with _ h; omega)).trans kc2
          have q5 : (n : Int) + 1 < (n : Int) + 2 := by omega
          have q6 : (0 : Int) ≤ (n : Int) + 1 := by omega
          have q7 : ((n : Int) + 1).toNat = n + 1 := by omega
          have q8 : (n : Int) < (n : Int) + 2 := by omega
          clear hown8 hg8 hb8 HS2 HA2 HB2 Hc0 Hb7 Hs7 hcl1 kn1 kn2 hu1 hu2 hzC0 hzC1 hzC2 HiC
          go_wp2_with fail
          have hkk9 : Kept (fun g => (Value.slice (some ⟨gk, 0, none⟩) (n + 2) (n + 2)).ownBlock = some g) W8 ((W8.setCell ⟨gk, n, none⟩ (.bool true)).setCell ⟨gk, n + 1, none⟩ (.bool true)) :=
            ((Kept.set W8 gk n (.bool true)).trans (Kept.set _ gk (n + 1) (.bool true)) (fun x h => Or.inl h)).mono (fun x _ h => by subst h; rfl)
          have hok9 := Bk.own_set (Bk.own_set HS3.out.keep.1 (j := n) (by have := HS3.out.lK; rw [List.length_map]; omega) (.bool true)) (j := n + 1) (by have := HS3.out.lK; rw [List.length_set, List.length_map]; omega) (.bool true)
          have HS4 := Lib.hid (HS3.out.chK (K' := (K'.set n true).set (n + 1) true) hkk9 (by rw [List.map_set, List.map_set]; exact hok9) (by rw [List.length_set, List.length_set]; exact HS3.out.lK))
          have HA4 := Lib.hid (HA3.out.kept hkk9 (fun g hg he => Bk.own_apart HA3.out.1 HS3.out.keep.1 (by decide) hg he))
          have HB4 := Lib.hid (HB3.out.kept hkk9 (fun g hg he => Bk.own_apart HB3.out.1 HS3.out.keep.1 (by decide) hg he))
          have Hcv4 := Lib.hid (Bk.own_kept Hcv.out hkk9 (fun g hg he => Bk.own_apart Hcv.out HS3.out.keep.1 (by decide) hg he))
          have Hkt := Lib.hid (show ((K'.set n true).set (n + 1) true)[n]? = some true ∧ ((K'.set n true).set (n + 1) true)[n + 1]? = some true from by
            have := HS3.out.lK
            refine ⟨?_, ?_⟩
            · rw [List.getElem?_set_ne (by omega), List.getElem?_set_self (by omega)]
            · rw [List.getElem?_set_self (by rw [List.length_set]; omega)])
          clear hkk9 hok9 HS3 HA3 HB3 Hcv kc1 kc2 kf1 kf2 kc3
          generalize (W8.setCell ⟨gk, n, none⟩ (.bool true)).setCell ⟨gk, n + 1, none⟩ (.bool true) = W9 at *
          generalize (K'.set n true).set (n + 1) true = K9 at *
          have z1 : (i : Int) ≤ (cl : Int) := by omega
          have z2 : (n : Int) ≤ (n : Int) + 2 := by omega
          have HCen := Lib.hid (fun (x : World) (hx : Below W9.heap.size W9 x) => centre_at L [(4619567317775286272, 0), (4621256167635550208, 0)] K9 i n gc cl gk (n + 2) W9 x Hl.out (by omega) (by have := HS4.out.lK; omega) (by omega) Hsm.out Hcv4.out (n + 2) HS4.out.keep.1 hx)
          generalize Sp.cs (fun _ => 1) (fun j => (K9.take n).getD j false && decide (j < i)) n = D at *
          generalize Sp.cs (fun j => (L.getD j (0, 0)).1) (fun j => (K9.take n).getD j false && decide (j < i)) n = X1 at *
          generalize Sp.cs (fun j => (L.getD j (0, 0)).2) (fun j => (K9.take n).getD j false && decide (j < i)) n = X2 at *
          have hst : (True ∧ True) ∧ Below W9.heap.size W9 W9.drew := ⟨⟨trivial, trivial⟩, (Below.refl W9.heap.size W9).drew⟩
          go_region_held3 (fun w' => (True ∧ True) ∧ Below W9.heap.size W9 w')
            ((rename (_ ∧ _) ∧ Below _ _ _ => hS; first
              | (with_reducible exact hS)
              | (exact hst)
              | (exact ⟨⟨trivial, trivial⟩, below_drewN (Below.refl W9.heap.size W9) _⟩)
              | fail))
            ((first
              | (go_at_call 58; rename (_ ∧ _) ∧ Below _ _ _ => hS; refine (HCen.out _ hS.2).mono ?_; rintro e x ⟨⟨P1, Q1, rfl, hP1, hQ1⟩, k, rfl⟩)))
          rename (_ ∧ _) ∧ Below _ _ _ => hF
          have HP1 := Lib.hid hP1; have HQ1 := Lib.hid hQ1; have HbW10 := Lib.hid hF.2
          generalize W9.drewN (1 + k) = W10 at *
          clear hF hst hS hP1 hQ1
          go_wp2_with fail
          have hst : (True ∧ True) ∧ Below W9.heap.size W9 W10.drew := ⟨⟨trivial, trivial⟩, HbW10.out.drew⟩
          go_region_held3 (fun w' => (True ∧ True) ∧ Below W9.heap.size W9 w')
            ((rename (_ ∧ _) ∧ Below _ _ _ => hS; first
              | (with_reducible exact hS)
              | (exact hst)
              | (exact ⟨⟨trivial, trivial⟩, below_drewN HbW10.out _⟩)
              | fail))
            ((first
              | (go_at_call 58; rename (_ ∧ _) ∧ Below _ _ _ => hS; refine (HCen.out _ hS.2).mono ?_; rintro e x ⟨⟨P2, Q2, rfl, hP2, hQ2⟩, k, rfl⟩)))
          rename (_ ∧ _) ∧ Below _ _ _ => hF
          have HP2 := Lib.hid hP2; have HQ2 := Lib.hid hQ2; have HbW11 := Lib.hid hF.2
          generalize W10.drewN (1 + k) = W11 at *
          clear hF hst hS hP2 hQ2
          go_wp2_with fail
          have HS5 := Lib.hid (HS4.out.below HbW11.out)
          have HA5 := Lib.hid (HA4.out.below HbW11.out)
          have HB5 := Lib.hid (HB4.out.below HbW11.out)
          have Hcv5 := Lib.hid (Bk.own_below_any Hcv4.out HbW11.out)
          have o1 := isn_eq HP1.out HP2.out
          have o2 := isn_eq HQ1.out HQ2.out
          clear HS4 HA4 HB4 Hcv4 HbW10 HbW11 HCen HP1 HP2 HQ1 HQ2 z1 z2
          refine (Bk.copyk4 Aa i ca W11.heap.size (L.map fp) W11 (by rw [List.length_map]; exact Hl.out.symm) (by omega) (Bk.own_nil1 HA5.out.1) (Bk.own_rd HA5.out.1) (Nat.le_refl _)).mono ?_
          rintro e W12 ⟨Ae, ce, rfl, hown, hb⟩
          have Hc0 := Lib.hid (Bk.own_below_any hown (show Below W12.heap.size W12 (W12.alloc (.cells #[.complex .f64 4619567317775286272 0, .complex .f64 4621256167635550208 0] 116)) from (Below.refl _ _).alloc (Nat.le_refl _) _))
          have Hb7 := Lib.hid hb
          have Hs7 := Lib.hid (show W11.heap.size ≤ (W12.alloc (.cells #[.complex .f64 4619567317775286272 0, .complex .f64 4621256167635550208 0] 116)).heap.size from Nat.le_trans hb.size (by simp))
          obtain ⟨iC, hiC, hzC0, hzC1, hzC2⟩ := info_parts infoC
          have HiC := Lib.hid hiC
          clear hown hb hiC
          go_wp2_with (at_builtin; refine wpList_append_rd rfl _ _ 110 rfl W11.heap.size 116 iC _ 16 descCs HiC.out hzC0 hzC1 hzC2 rfl _ i ((L.map fp).map VC) rfl Hc0.out _ (some ⟨W12.heap.size, 0, none⟩) 2 2 [.complex .f64 4619567317775286272 0, .complex .f64 4621256167635550208 0] rfl rfl (by intro h; cases h) (rd_fresh _ _ _ _ _ _ rfl rfl) (by intro u hu; simp at hu; rcases hu with rfl | rfl <;> rfl) (by unfold maxLen; omega) (by omega) Hs7.out ?_)
          intro dv W13 hown8 hg8
          have hb8 : Below W11.heap.size W11 W13 := (Hb7.out.alloc Hb7.out.size _).grown hg8 Hs7.out (fun k hk => (Hc0.out.lt k hk).1)
          obtain ⟨Ad, cd, rfl, _, _⟩ := Bk.own_hdr hown8
          have Hdv := Lib.hid (show W13.ownsRow 0 116 1 (.slice Ad (i + 2) cd) (i + 2) ((L.map fp ++ [(4619567317775286272, 0), (4621256167635550208, 0)]).map VC) by have := Bk.own_zero hown8; simpa using this)
          have Hcv6 := Lib.hid (Bk.own_below_any Hcv5.out hb8)
          have HS6 := Lib.hid (HS5.out.below hb8)
          have HA6 := Lib.hid (HA5.out.below hb8)
          have HB6 := Lib.hid (HB5.out.below hb8)
          clear hown8 hg8 hb8 HS5 HA5 HB5 Hcv5 Hc0 Hb7 Hs7 hzC0 hzC1 hzC2 HiC
          go_wp2_with fail
          refine (sameC_calls (some ⟨gc, 0, none⟩) Ad (i + 2) cl cd W13.heap.size W13.heap.size (L.map fp ++ [(4619567317775286272, 0), (4621256167635550208, 0)]) W13 (by have := Hl.out; simp; omega) (by omega) (own79 L) (Bk.own_rd Hcv6.out) (Bk.own_rd Hdv.out)).mono ?_
          rintro e W14 ⟨rfl, k14, rfl⟩
          have hb14 := Bk.drewN_below W13 k14
          have HS7 := Lib.hid (HS6.out.below hb14)
          have HA7 := Lib.hid (HA6.out.below hb14)
          have HB7 := Lib.hid (HB6.out.below hb14)
          clear HS6 HA6 HB6 Hcv6 Hdv hb14
          generalize W13.drewN k14 = W14 at *
          have kc1 := Bk.own_cell HS7.out.keep.1 (k := n) (u := VB true) (by rw [List.getElem?_map, Hkt.out.1]; rfl)
          have kc2 := Bk.own_cell HS7.out.keep.1 (k := n + 1) (u := VB true) (by rw [List.getElem?_map, Hkt.out.2]; rfl)
          dsimp only [VB] at kc1 kc2
          go_wp2_with fail
          clear kc1 kc2 o1 o2
          have hN6 : 2 * r ≤ 4 := by omega
          refine (Bk.keepIs4 (by decide) 0 Aa i ca (L.map fp) W14 HS7.out.is (by omega) (by rw [List.length_map]; exact Hl.out.symm) (by omega) HA7.out.1 HA7.out.2 (pl_own L)).mono ?_
          rintro e W15 ⟨rfl, hI, hK⟩
          have HB8 := Lib.hid (HB7.out.keep hK HAB.out.symm)
          have HS8 := Lib.hid (HS7.out.push HA7.out.1 HAl.out hI hK)
          clear hI hK HS7 HA7 HB7
          go_wp2_with fail
          refine (Bk.keepIs4 (by decide) 0 Ab i cb (L.map fp) W15 HS8.out.is (by omega) (by rw [List.length_map]; exact Hl.out.symm) (by omega) HB8.out.1 HB8.out.2 (pl_own L)).mono ?_
          rintro e W16 ⟨rfl, hI, hK⟩
          have HS9 := Lib.hid (HS8.out.push HB8.out.1 HBl.out hI hK)
          clear hI hK HS8 HB8
          by_cases hn0 : n = 0
          · subst hn0
            go_wp2_with fail
            have hrel : ∃ (r1 : Nat) (z1 : List Int) (K1 : List Bool) (U1 : Nat → Prop), Value.int .i64 ((r : Int) + 1) = .int .i64 (r1 : Int) ∧ r1 ≤ 2 ∧ SSt w kb 0 (.slice (some ⟨gm, 0, none⟩) (0 + 2) cm) (.slice (some ⟨gk, 0, none⟩) (0 + 2) (0 + 2)) z1 K1 (2 * r1) U1 W16 := ⟨r + 1, zr, K9, _, by congr 1, by omega, HS9.out⟩
            refine ⟨?_, by simp [intOf]; omega⟩
            repeat (first | (exact ⟨hrel, rfl⟩) | (apply Exists.intro))
          · have p0 : (0 : Int) < (n : Int) := by omega
            obtain ⟨m, hm⟩ : ∃ m, n = m + 1 := ⟨n - 1, by omega⟩
            have em : (n : Int) - 1 = (m : Int) := by omega
            have hml : m < zr.length := by have := HS9.out.lz; omega
            obtain ⟨z, hz⟩ : ∃ z, zr[m]? = some z := ⟨zr[m], List.getElem?_eq_getElem hml⟩
            have mc := Bk.own_cell HS9.out.mine.1 (k := m) (u := .int .i64 z) (by rw [List.getElem?_map, List.getElem?_append_left hml, hz]; rfl)
            have mf := Bk.own_frozen HS9.out.mine.1 m
            have m2 : (m : Int) < (n : Int) + 2 := by omega
            have Hm2 := Lib.hid hm; have Hml := Lib.hid hml
            clear hz hm hml hn0
            by_cases hz0 : 0 ≤ z
            · by_cases hz1 : z < 1099511627776
              · have hset : (((zr ++ [47, 11]).map VI).set m (.int .i64 (z + 1))) = ((zr.set m (z + 1) ++ [47, 11]).map VI) := by rw [← List.set_append_left _ _ Hml.out, List.map_set]
                have HS10 := Lib.hid (HS9.out.chM (zs' := zr.set m (z + 1)) ((Kept.set W16 gm m (.int .i64 (z + 1))).mono (fun x _ h => by subst h; rfl)) (by rw [← hset]; exact Bk.own_set HS9.out.mine.1 (by have := Hml.out; simp; omega) _) (by rw [List.length_set]; exact HS9.out.lz))
                clear HS9 hset
                go_wp2_with fail
                exact ⟨⟨r + 1, _, K9, _, by congr 1, by omega, HS10.out⟩, by simp [intOf]; omega⟩
              · go_wp2_with fail
                exact ⟨⟨r + 1, zr, K9, _, by congr 1, by omega, HS9.out⟩, by simp [intOf]; omega⟩
            · go_wp2_with fail
              exact ⟨⟨r + 1, zr, K9, _, by congr 1, by omega, HS9.out⟩, by simp [intOf]; omega⟩
    · obtain rfl : r = 2 := by omega
      go_wp2_with fail
      refine (Bk.finish_calls Bk.allS Bk.usedS_ok W0 HS.out.is (by omega)).mono ?_
      rintro e k4 ⟨rfl, hK⟩
      have HF := Lib.hid (Bk.kept_low HS.out.bel hK HS.out.low HS.out.bel.size)
      clear hK HS
      go_wp2_with fail
      go_ret
      exact ⟨rfl, HF.out⟩
end Go.Proofs.YtmeoafodcniliaaGreatDoor
