/- FrameOwn: the walk -/
import Derived.Test.YtmeoafodcniliaaGreatDoorOwnFrA
import Derived.Laws.OwnMore
namespace Go.Proofs.YtmeoafodcniliaaGreatDoor
open Go.ChangeShapes Go.WideShapes Go.ChangeAt Go.RowKit
open Bk (Row Is Sep Kept NC Fr FrKept)
set_option linter.unusedSimpArgs false
set_option linter.unusedVariables false
set_option maxRecDepth 20000
attribute [local go_sem ↓] Bk.build_book Bk.box_book
attribute [local go_sem ↓] loadF storeF
attribute [local go_sem] isLoadOf loadArg isRowAt_ptr rowAt_ptr blkOf_ptr aggOf_agg isAggV_agg isRow_alloc_new pair_cells
theorem fk_below {X W W' : World} {g o : Nat} {v : Value} (h : (W.cell? ⟨g, o, none⟩ = some v ∧ g < X.heap.size) ∧ Below X.heap.size X W) (hb : Below X.heap.size W W') : (W'.cell? ⟨g, o, none⟩ = some v ∧ g < X.heap.size) ∧ Below X.heap.size X W' :=
  ⟨⟨(hb.cell (p := ⟨g, o, none⟩) h.1.2).trans h.1.1, h.1.2⟩, h.2.trans hb⟩
theorem fk_drew {X W : World} {g o : Nat} {v : Value} (h : (W.cell? ⟨g, o, none⟩ = some v ∧ g < X.heap.size) ∧ Below X.heap.size X W) : (W.drew.cell? ⟨g, o, none⟩ = some v ∧ g < X.heap.size) ∧ Below X.heap.size X W.drew := fk_below h (Below.refl _ _).drew
theorem fk_alloc {X W : World} {g o : Nat} {v : Value} {O : Obj} (h : (W.cell? ⟨g, o, none⟩ = some v ∧ g < X.heap.size) ∧ Below X.heap.size X W) : ((W.alloc O).cell? ⟨g, o, none⟩ = some v ∧ g < X.heap.size) ∧ Below X.heap.size X (W.alloc O) := fk_below h ((Below.refl _ _).alloc h.2.size _)
theorem fk_row {X W : World} {g o g2 : Nat} {v : Value} {cs : Array Value} (h : (W.cell? ⟨g, o, none⟩ = some v ∧ g < X.heap.size) ∧ Below X.heap.size X W) (hg : X.heap.size ≤ g2) : ((W.setRow g2 cs).cell? ⟨g, o, none⟩ = some v ∧ g < X.heap.size) ∧ Below X.heap.size X (W.setRow g2 cs) := fk_below h (below_setRow (Below.refl _ _) hg _)
theorem xor_one : ∀ c : BitVec 8, bits .xor .u8 (n8 c : Int) 1 = (n8 (c ^^^ 1#8) : Int) := by decide +kernel
set_option maxHeartbeats 8000000 in
theorem law_fr (A : Option Addr) (n cap : Nat) (fs : FrA) (w : World) (ha : InF w A n cap fs) (ht : TabIn w) :
    Calls Tryz.prog 4 #[.slice A n cap] w fun e w' => e = .returned (.bool true) ∧ Below w.heap.size w w' := by
  obtain ⟨hn, hc, hcm, hnil, hr⟩ := ha
  have Hn := Lib.hid hn; have Hr := Lib.hid hr; have Ht := Lib.hid ht; have Hc := Lib.hid hc; have Hcm := Lib.hid hcm
  unfold maxLen at hcm
  clear hn hr hnil ht
  obtain ⟨i0, hi0, hz0, hz1, hz2⟩ := info_parts infoU8
  have Hi := Lib.hid hi0
  clear hi0
  go_enter Tryz.func4, Tryz.ntmps4
  go_wp2_with fail
  refine (first_calls w Ht.out).mono ?_
  rintro e w1 ⟨rfl, hb1⟩
  have HB1 := Lib.hid hb1
  have hs1 := hb1.size
  clear hb1
  by_cases hbig : (30 : Int) < (n : Int)
  · go_wp2_with fail
    go_ret
    exact ⟨rfl, HB1.out⟩
  have hn3 : n ≤ 30 := by omega
  go_wp2_with fail
  refine (small_calls A n cap w.heap.size fs w1 Hn.out Hc.out Hcm.out (Hr.out.below HB1.out (Nat.le_refl _))).mono ?_
  rintro e w' ⟨b, rfl, rfl, hfew⟩
  have Hfew := Lib.hid hfew
  clear hfew
  cases b with
  | false =>
    clear Hfew
    go_wp2_with fail
    go_ret
    exact ⟨rfl, HB1.out⟩
  | true =>
  obtain ⟨f1, f2⟩ := Hfew.out rfl
  have Hf2 := Lib.hid f2
  clear Hfew f1 f2
  go_wp2_with fail
  obtain ⟨w2, hw2⟩ : ∃ x, x = w1.alloc (.cells Bk.book0 44) := ⟨_, rfl⟩
  have HI2 := Lib.hid (show Is Bk.usedF w2 w1.heap.size (fun g => g = w1.heap.size) 0 by rw [hw2]; exact Is.new Bk.usedF w1)
  have HB2 := Lib.hid (HB1.out.trans (show Below w.heap.size w1 w2 by rw [hw2]; exact (Below.refl _ _).alloc hs1 _))
  rw [← hw2]
  clear hw2
  obtain ⟨kb, hkb⟩ : ∃ kb, kb = w1.heap.size := ⟨_, rfl⟩
  rw [← hkb] at HI2 ⊢
  have Hkb := Lib.hid (show w.heap.size ≤ kb by rw [hkb]; exact hs1)
  clear hkb
  obtain ⟨U0, hU0⟩ : ∃ U : Nat → Prop, U = fun g => g = kb := ⟨_, rfl⟩
  rw [← hU0] at HI2
  have HU := Lib.hid (show ∀ g, U0 g → w.heap.size ≤ g by rw [hU0]; intro g hg; rw [show g = kb from hg]; exact Hkb.out)
  clear hU0
  go_loopw [5] (fun iv wr => ∃ (i : Nat) (U : Nat → Prop), iv = .int .i64 (i : Int) ∧ i ≤ n ∧ Is Bk.usedF wr kb U (2200 * i) ∧ (∀ g, U g → w.heap.size ≤ g) ∧ Below w.heap.size w wr) (fun iv _ => n - (intOf iv).toNat)
  case atStart => exact ⟨0, U0, rfl, by omega, HI2.out, HU.out, HB2.out⟩
  case round =>
    obtain ⟨i, U, rfl, hin, hI, hlow, hbl⟩ := hrel
    have HI := Lib.hid hI; have HL := Lib.hid hlow; have HB := Lib.hid hbl
    clear hI hlow hbl HI2 HB2 HU
    generalize wr = W0 at *
    by_cases hlt : i < n
    · have q1 : (i : Int) < (n : Int) := by omega
      obtain ⟨⟨k, p⟩, hf⟩ : ∃ f, fs[i]? = some f := ⟨fs[i]'(by rw [← Hn.out]; omega), List.getElem?_eq_getElem _⟩
      obtain ⟨b0, off, Ap, cp, rfl, hbB, hc0, hc1, hpnil, hpc, hpcm, hrp⟩ := Hr.out i k p hf
      have hc1 := (HB.out.cell (p := ⟨b0, off + i * 2 + 1, none⟩) hbB).trans hc1
      have hrp := hrp.below HB.out (Nat.le_refl _)
      obtain ⟨m, hm⟩ : ∃ m, m = p.length := ⟨_, rfl⟩
      have hm6 : m ≤ 65536 := by rw [hm]; exact Hf2.out (k, p) (List.mem_of_getElem? hf)
      rw [← hm] at hc1 hpc hpnil
      have Hm := Lib.hid hm; have Hpn := Lib.hid hpnil; have Hrp := Lib.hid hrp
      have HC := Lib.hid (And.intro hbB hc0)
      clear hm hpnil hrp hf hpcm hc0
      go_wp2_with fail
      refine (bytes_calls Ap m cp w.heap.size p W0 Hm.out (by omega) Hpn.out HB.out.size Hrp.out).mono ?_
      rintro e W1 ⟨P1, d1, rfl, hown, hb⟩
      have Hown := Lib.hid (own_below hown ((Below.refl W1.heap.size W1).alloc (Nat.le_refl _) (.cells #[.int .u8 47, .int .u8 11] 5)) (Nat.le_refl _))
      have HI1 := Lib.hid (HI.out.below hb)
      have HB1' := Lib.hid (HB.out.trans (hb.mono HB.out.size))
      have Hs1 := Lib.hid hb.size
      have Hal := Lib.hid (show Below W1.heap.size W1 (W1.alloc (.cells #[.int .u8 47, .int .u8 11] 5)) from (Below.refl _ _).alloc (Nat.le_refl _) _)
      clear hown hb
      go_wp2_with (at_builtin; refine wpList_append_rd rfl _ _ 22 rfl W0.heap.size 5 i0 _ 1 descU8s Hi.out hz0 hz1 hz2 rfl _ m (p.map V8) rfl Hown.out _ (some ⟨W1.heap.size, 0, none⟩) 2 2 [.int .u8 47, .int .u8 11] rfl rfl (by intro h; cases h) (rd_fresh _ _ _ _ _ _ rfl rfl) (by intro u hu; simp at hu; rcases hu with rfl | rfl <;> rfl) (by unfold maxLen; omega) (by omega) (by have := Hs1.out; simp; omega) ?_)
      intro mv w4 hown4 hg4
      have HU2 := Lib.hid (show ∀ g, U g → g < W0.heap.size from HI.out.ult)
      have HI4 := Lib.hid ((HI1.out.below Hal.out).kept (Kept.grown hg4) (fun g hg he => by have h1 := HU2.out g hg; have h2 := (Hown.out.lt g he).1; omega))
      have hb4 : Below W0.heap.size W1 w4 := ((Below.refl _ _).alloc Hs1.out _).grown hg4 (by have := Hs1.out; simp; omega) (fun k hk => (Hown.out.lt k hk).1)
      have HS0 := Lib.hid (show FSt w kb m mv p (2200 * i + 1100 * 0) U w4 from
        ⟨HI4.out, ⟨by have := Bk.own_zero hown4; rw [List.map_append]; exact this, fun g hg hu => by have h1 := HU2.out g hu; have h2 := (Bk.own_blk hown4 hg).1; omega⟩, HL.out, HB1'.out.trans (hb4.mono HB.out.size), fun g hg => Nat.le_trans HB.out.size (Bk.own_blk hown4 hg).1, Hm.out.symm⟩)
      obtain ⟨gm, cm, rfl, hcm1, hcm2, _⟩ := Bk.own_some HS0.out.mine.1 (by omega)
      have Hcmm := Lib.hid (And.intro hcm1 hcm2)
      clear hown4 hg4 hb4 Hown Hal HI4 HI1 HB1' HU2 Hs1 hcm1 hcm2 hc1
      go_wp2_with fail
      go_loopw [8] (fun rv wr => ∃ (r : Nat) (zr : List (BitVec 8)) (V : Nat → Prop), rv = .int .i64 (r : Int) ∧ r ≤ 2 ∧ FSt w kb m (.slice (some ⟨gm, 0, none⟩) (m + 2) cm) zr (2200 * i + 1100 * r) V wr) (fun rv _ => 2 - (intOf rv).toNat)
      case atStart => exact ⟨0, p, U, rfl, by omega, HS0.out⟩
      case round =>
        obtain ⟨r, zr, V, rfl, hr2, hst⟩ := hrel
        clear HS0
        have HS := Lib.hid hst
        clear hst
        generalize wr = X0 at *
        by_cases hlt2 : r < 2
        · have q2 : (r : Int) < 2 := by omega
          have hck := (HS.out.bel.cell (p := ⟨b0, off + i * 2, none⟩) HC.out.1).trans HC.out.2
          go_wp2_with fail
          have hxb : b0 < X0.heap.size := Nat.lt_of_lt_of_le HC.out.1 HS.out.bel.size
          have hst : (X0.drew.cell? ⟨b0, off + i * 2, none⟩ = some (.int .i64 k) ∧ b0 < X0.heap.size) ∧ Below X0.heap.size X0 X0.drew := ⟨⟨hck, hxb⟩, (Below.refl _ _).drew⟩
          have hst0 : (X0.cell? ⟨b0, off + i * 2, none⟩ = some (.int .i64 k) ∧ b0 < X0.heap.size) ∧ Below X0.heap.size X0 X0 := ⟨⟨hck, hxb⟩, Below.refl _ _⟩
          have hmc : (m : Int) ≤ (cm : Int) := by have := Hcmm.out.1; omega
          have hcx : cm ≤ 9223372036854775807 := by have := Hcmm.out.2; unfold maxLen at this; omega
          go_region_held3 (fun w' => (w'.cell? ⟨b0, off + i * 2, none⟩ = some (.int .i64 k) ∧ b0 < X0.heap.size) ∧ Below X0.heap.size X0 w')
            ((rename (_ ∧ _) ∧ Below _ _ _ => hS; first
              | (with_reducible exact hS)
              | (exact hst)
              | (with_reducible exact fk_drew (fk_alloc hst0))
              | (with_reducible exact fk_drew hS)
              | (with_reducible exact fk_alloc hS)
              | (with_reducible refine fk_row hS ?_; exact Nat.le_refl _)
              | fail))
            ((fail))
          rename (_ ∧ _) ∧ Below _ _ _ => hF
          clear hF hst hst0 hck
          have hbx : ((X0.alloc (.cells #[.int .i64 k, .slice (some ⟨gm, 0, none⟩) m cm] 74)).drew).heap[X0.heap.size]? = some (.cells #[.int .i64 k, .slice (some ⟨gm, 0, none⟩) m cm] 74 (0, 0)) := heap_alloc_new _ _
          have HS := Lib.hid (HS.out.below (show Below X0.heap.size X0 (X0.alloc (.cells #[.int .i64 k, .slice (some ⟨gm, 0, none⟩) m cm] 74)).drew from ((Below.refl _ _).alloc (Nat.le_refl _) _).drew))
          generalize (X0.alloc (.cells #[.int .i64 k, .slice (some ⟨gm, 0, none⟩) m cm] 74)).drew = X1 at *
          generalize X0.heap.size = gf at *
          have Hbx := Lib.hid hbx
          have hgl := lt_heap hbx
          clear hbx hxb
          go_wp2_with fail
          refine (bytes_calls (some ⟨gm, 0, none⟩) (m + 2) cm X1.heap.size (zr ++ [47#8, 11#8]) X1 (by have := HS.out.lb; simp; omega) (by omega) (by intro h; cases h) (Nat.le_refl _) (Bk.own_rd HS.out.mine.1)).mono ?_
          rintro e X2 ⟨Aw, cw, rfl, hown, hb⟩
          have HS := Lib.hid (HS.out.below hb)
          have Hw := Lib.hid (Bk.own_zero hown)
          have Hbx := Lib.hid ((hb.block _ hgl).trans Hbx.out)
          have hgl : gf < X2.heap.size := Nat.lt_of_lt_of_le hgl hb.size
          have hrow2 : IsRow X2 gf 74 2 := ⟨_, Hbx.out, rfl⟩
          have hro2 : rowOf X2 gf = #[.int .i64 k, .slice (some ⟨gm, 0, none⟩) m cm] := rowOf_eq Hbx.out
          clear hown hb
          go_wp2_with fail
          have Hz := Lib.hid (show m = zr.length from HS.out.lb.symm)
          have HT := Lib.hid (tabIn_of Ht.out HS.out.bel)
          have Hrz := Lib.hid (show Rd X2 X2.heap.size (some ⟨gm, 0, none⟩) (zr.map V8) from by
            have := rd_take8 (Bk.own_rd HS.out.mine.1) m
            rw [List.take_append_of_le_length (by rw [Hz.out]; exact Nat.le_refl _), List.take_of_length_le (by rw [Hz.out]; exact Nat.le_refl _)] at this
            exact this)
          refine (encode_any k (some ⟨gm, 0, none⟩) m cm X2.heap.size zr X2 Hz.out Hrz.out (Nat.le_refl _) HT.out).mono ?_
          rintro e X3 ⟨hb, A3, c3, rfl, hown⟩
          have HA := Lib.hid (Row.fresh hown HS.out.is.ult)
          have HAl := Lib.hid (fun x hx => Nat.le_trans HS.out.bel.size (Bk.own_blk (g := x) hown hx).1)
          have HAs := Lib.hid (Bk.sep_new HS.out.mine.1 hown)
          have Hw := Lib.hid (Bk.own_below_any Hw.out hb)
          have HS := Lib.hid (HS.out.below hb)
          have Hrz := Lib.hid (Hrz.out.below hb (Nat.le_refl _))
          have Hbx := Lib.hid ((hb.block _ hgl).trans Hbx.out)
          have hgs := hb.size
          have hgl : gf < X3.heap.size := Nat.lt_of_lt_of_le hgl hb.size
          have hrow3 : IsRow X3 gf 74 2 := ⟨_, Hbx.out, rfl⟩
          have hro3 : rowOf X3 gf = #[.int .i64 k, .slice (some ⟨gm, 0, none⟩) m cm] := rowOf_eq Hbx.out
          clear hown hb hrow2 hro2 HT
          go_wp2_with fail
          refine (rencode_any k (some ⟨gm, 0, none⟩) m cm X2.heap.size zr X3 Hz.out (by intro h; cases h) Hrz.out hgs).mono ?_
          rintro e X4 ⟨hb, A4, c4, rfl, hown⟩
          have HB4 := Lib.hid (Bk.own_zero hown)
          have HA := Lib.hid (HA.out.below hb)
          have Hw := Lib.hid (Bk.own_below_any Hw.out hb)
          have HS := Lib.hid (HS.out.below hb)
          clear hown hb hrow3 hro3 Hrz Hbx hgl hgs
          have he := encE_range k zr
          have hLs := encL_small k zr
          obtain ⟨L, hL⟩ : ∃ L, L = encL k zr := ⟨_, rfl⟩
          obtain ⟨E, hE⟩ : ∃ E, E = encE k zr := ⟨_, rfl⟩
          rw [← hL] at HA HAs HAl HB4 hLs ⊢
          rw [← hE] at he ⊢
          clear hL hE
          obtain ⟨l, hl⟩ : ∃ l, L.length = l := ⟨_, rfl⟩
          rw [hl] at HA HAs HAl HB4 hLs ⊢
          have Hl := Lib.hid hl
          have He := Lib.hid he
          clear hl he
          go_wp2_with fail
          refine (same_calls A3 A4 l c3 l c4 _ _ L L X4 Hl.out.symm Hl.out.symm (fun h => (Bk.own_nil1 HA.out.1 h).1) (fun h => (Bk.own_nil1 HB4.out h).1) (Bk.own_rd HA.out.1) (Bk.own_rd HB4.out)).mono ?_
          rintro e w' ⟨rfl, rfl⟩
          rw [decide_eq_true rfl]
          go_wp2_with fail
          refine (same_calls (some ⟨gm, 0, none⟩) Aw (m + 2) cm (m + 2) cw _ _ (zr ++ [47#8, 11#8]) (zr ++ [47#8, 11#8]) X4 (by have := HS.out.lb; simp; omega) (by have := HS.out.lb; simp; omega) (by intro h; cases h) (fun h => (Bk.own_nil1 Hw.out h).1) (Bk.own_rd HS.out.mine.1) (Bk.own_rd Hw.out)).mono ?_
          rintro e w' ⟨rfl, rfl⟩
          rw [decide_eq_true rfl]
          clear Hw
          go_wp2_with (first | (go_at_call 30; refine (num_calls E X4 He.out.1 He.out.2).mono ?_; rintro e w9 ⟨rfl, rfl⟩))
          refine (Bk.keepNc0 rfl 0 A3 l c3 L X4 HS.out.is (by omega) Hl.out (by omega) HA.out.1 HA.out.2).mono ?_
          rintro e X5 ⟨rfl, hI, hK, hN⟩
          have HS := Lib.hid (HS.out.push HAs.out HAl.out hI hK)
          have HB5 := Lib.hid (Bk.own_nc HB4.out (by decide) hN)
          clear hI hK hN HA HAl HAs HB4
          generalize hV : Bk.more V X4 X5 (.slice A3 l c3) = V2 at *
          clear hV
          go_wp2_with fail
          refine (bytes_calls A4 l c4 X5.heap.size L X5 Hl.out.symm (by omega) (Bk.own_nil1 HB5.out) (Nat.le_refl _) (Bk.own_rd HB5.out)).mono ?_
          rintro e X6 ⟨A6, c6, rfl, hown, hb⟩
          have Hown := Lib.hid (own_below hown ((Below.refl X6.heap.size X6).alloc (Nat.le_refl _) (.cells #[.int .u8 47, .int .u8 11] 5)) (Nat.le_refl _))
          have HS6 := Lib.hid (HS.out.below hb)
          have HB6 := Lib.hid (Bk.own_below_any HB5.out hb)
          have Hs6 := Lib.hid hb.size
          have Hb6 := Lib.hid hb
          clear hown hb
          go_wp2_with (at_builtin; refine wpList_append_rd rfl _ _ 22 rfl X5.heap.size 5 i0 _ 1 descU8s Hi.out hz0 hz1 hz2 rfl _ l (L.map V8) rfl Hown.out _ (some ⟨X6.heap.size, 0, none⟩) 2 2 [.int .u8 47, .int .u8 11] rfl rfl (by intro h; cases h) (rd_fresh _ _ _ _ _ _ rfl rfl) (by intro u hu; simp at hu; rcases hu with rfl | rfl <;> rfl) (by unfold maxLen; omega) (by omega) (by have := Hs6.out; simp; omega) ?_)
          intro dv X7 hown7 hg7
          have hb7 : Below X5.heap.size X6 X7 := ((Below.refl _ _).alloc Hs6.out _).grown hg7 (by have := Hs6.out; simp; omega) (fun g hg => (Hown.out.lt g hg).1)
          have hb57 := Hb6.out.trans hb7
          have HS := Lib.hid (HS.out.below hb57)
          have HBr := Lib.hid (Bk.own_below_any HB5.out hb57)
          have HD := Lib.hid (show X7.ownsRow X5.heap.size 5 1 dv (l + 2) ((L ++ [47#8, 11#8]).map V8) from by rw [List.map_append]; exact hown7)
          obtain ⟨gd, cd, rfl, hcd1, hcd2, _⟩ := Bk.own_some HD.out (by omega)
          have hcdx : cd ≤ 9223372036854775807 := by unfold maxLen at hcd2; omega
          have hcdl : (l : Int) ≤ (cd : Int) := by omega
          clear hown7 hg7 hb7 hb57 Hown HS6 HB6 Hs6 Hb6 HB5
          go_wp2_with fail
          have Hrd := Lib.hid (show Rd X7 X7.heap.size (some ⟨gd, 0, none⟩) (L.map V8) from by
            have := rd_take8 (Bk.own_rd HD.out) l
            rw [List.take_append_of_le_length (by rw [Hl.out]; exact Nat.le_refl _), List.take_of_length_le (by rw [Hl.out]; exact Nat.le_refl _)] at this
            exact this)
          have HT := Lib.hid (tabIn_of Ht.out HS.out.bel)
          refine (decode_calls (some ⟨gd, 0, none⟩) l cd X7.heap.size L X7 Hl.out.symm (by unfold maxLen; omega) Hrd.out (Nat.le_refl _) (by omega) HT.out).mono ?_
          rintro e X8 hans
          obtain ⟨hb, A8, c8, rfl, hown⟩ := dec_uni hans
          have HG := Lib.hid (Row.fresh hown HS.out.is.ult)
          have HGl := Lib.hid (fun x hx => Nat.le_trans HS.out.bel.size (Bk.own_blk (g := x) hown hx).1)
          have HGs := Lib.hid (Bk.sep_new HS.out.mine.1 hown)
          have HS := Lib.hid (HS.out.below hb)
          have HBr := Lib.hid (Bk.own_below_any HBr.out hb)
          have HD := Lib.hid (Bk.own_below_any HD.out hb)
          have Hrd := Lib.hid (Hrd.out.below hb (Nat.le_refl _))
          have hgs := hb.size
          have hdp : (decP L).length ≤ 1024 := by
            unfold decP; split
            · rename_i hg; rw [Fr.pOf_length (by have := Fr.good_len hg; omega)]; exact Fr.good_nOf hg
            · simp
          obtain ⟨P, hP⟩ : ∃ P, P = decP L := ⟨_, rfl⟩
          rw [← hP] at hdp HG HGl HGs ⊢
          obtain ⟨q, hq⟩ : ∃ q, P.length = q := ⟨_, rfl⟩
          rw [hq] at hdp HG HGl HGs ⊢
          have Hq := Lib.hid hq
          generalize decK L = dk at *
          generalize decN L = dn at *
          generalize decE L = de at *
          clear hown hb hans hP hq HT
          go_wp2_with fail
          have hb89 : Below X8.heap.size X8 ((X8.alloc (.cells #[.int .i64 0, .slice none 0 0] 74)).setRow X8.heap.size #[.int .i64 dk, .slice A8 q c8]) := below_setRow ((Below.refl _ _).alloc (Nat.le_refl _) _) (Nat.le_refl _) _
          have hbg : ((X8.alloc (.cells #[.int .i64 0, .slice none 0 0] 74)).setRow X8.heap.size #[.int .i64 dk, .slice A8 q c8]).heap[X8.heap.size]? = some (.cells #[.int .i64 dk, .slice A8 q c8] 74 (0, 0)) := setRow_heap _ _ _ _ _ _ (heap_alloc_new _ _)
          have HG := Lib.hid (HG.out.below hb89)
          have HS := Lib.hid (HS.out.below hb89)
          have HBr := Lib.hid (Bk.own_below_any HBr.out hb89)
          have HD := Lib.hid (Bk.own_below_any HD.out hb89)
          have Hrd := Lib.hid (Hrd.out.below hb89 hgs)
          have hgs9 := Nat.le_trans hgs hb89.size
          clear hb89
          generalize (X8.alloc (.cells #[.int .i64 0, .slice none 0 0] 74)).setRow X8.heap.size #[.int .i64 dk, .slice A8 q c8] = X9 at *
          generalize X8.heap.size = gg at *
          have HT := Lib.hid (tabIn_of Ht.out HS.out.bel)
          refine (row_calls (some ⟨gd, 0, none⟩) l cd X7.heap.size L X9 Hl.out.symm (by omega) Hrd.out hgs9 (by omega) (by unfold maxLen; omega) HT.out).mono ?_
          rintro e Y0 ⟨hb, A9, c9, cells, rfl, hown, hsl⟩
          obtain ⟨gs, hgl, hcell, hgi⟩ := frs_of hsl
          have hsm := rows_small L.length L
          have hglt := lt_heap hbg
          have hbg := (hb.block _ hglt).trans hbg
          have hglt : gg < Y0.heap.size := Nat.lt_of_lt_of_le hglt hb.size
          have HP := Lib.hid (Row.fresh hown HS.out.is.ult)
          have HPl := Lib.hid (fun x hx => Nat.le_trans HS.out.bel.size (Bk.own_blk (g := x) hown hx).1)
          have HPp := Lib.hid (show ∀ f ∈ gs, f.bs.length ≤ 1099511627776 ∧ Y0.ownsRow 0 5 1 f.pv f.bs.length (f.bs.map V8) from fun f hf => by
            obtain ⟨j, hj⟩ := List.getElem?_of_mem hf
            obtain ⟨k2, p2, e1, e2, e3, _⟩ := hgi j f hj
            have := hsm.2 _ (List.mem_of_getElem? e1)
            exact ⟨by rw [e2]; simp only at this; omega, Bk.own_zero e3⟩)
          have HPn := Lib.hid (show ∀ f ∈ gs, ∀ g, f.pv.ownBlock = some g → X9.heap.size ≤ g from fun f hf g hg => by
            obtain ⟨j, hj⟩ := List.getElem?_of_mem hf
            obtain ⟨k2, p2, e1, e2, e3, _⟩ := hgi j f hj
            exact (Bk.own_blk e3 hg).1)
          have HPa := Lib.hid (show ∀ (i j : Nat) (a b : Fr), i < j → gs[i]? = some a → gs[j]? = some b → ∀ g, a.pv.ownBlock = some g → b.pv.ownBlock ≠ some g from fun i j a b hij ha hb g hg => by
            obtain ⟨_, _, _, _, _, e1⟩ := hgi i a ha
            obtain ⟨_, _, _, _, _, e2⟩ := hgi j b hb
            exact hsl.2.2 i j _ _ hij e1 e2 g hg)
          have HGq := Lib.hid (show ∀ g, (Value.slice A8 q c8).ownBlock = some g → g < X9.heap.size from fun g hg => (Bk.own_blk HG.out.1 hg).2)
          have HV := Lib.hid (show ∀ g, V2 g → g < X9.heap.size from HS.out.is.ult)
          have HMb := Lib.hid (show ∀ g, (Value.slice (some ⟨gm, 0, none⟩) (m + 2) cm).ownBlock = some g → g < X9.heap.size from fun g hg => (Bk.own_blk HS.out.mine.1 hg).2)
          have HG := Lib.hid (HG.out.below hb)
          have HX := Lib.hid (HS.out.bel.size)
          have HS := Lib.hid (HS.out.below hb)
          have HBr := Lib.hid (Bk.own_below_any HBr.out hb)
          have HD := Lib.hid (Bk.own_below_any HD.out hb)
          obtain ⟨t, ht⟩ : ∃ t, (Fr.rows L.length L).length = t := ⟨_, rfl⟩
          rw [hcell, ht] at HP hown
          rw [ht] at hgl hsm HPl ⊢
          have Hgl := Lib.hid hgl
          have htl : t ≤ l := by have := hsm.1; have := Hl.out; omega
          generalize (if Fr.rowsAt L.length L = L.length then (0 : Int) else 32) = te at *
          generalize Fr.rowsAt L.length L = ta at *
          have cg1 : Y0.cell? ⟨gg, 1, none⟩ = some (.slice A8 q c8) := by rw [cell_heap hbg]; rfl
          clear hown hsl hgi hcell hsm hb Hrd hgs hgs9 hgl ht HT hbg
          go_wp2_with fail
          refine (Bk.keepNc0 rfl 0 A8 q c8 P Y0 HS.out.is (by omega) Hq.out (by omega) HG.out.1 HG.out.2).mono ?_
          rintro e Y1 ⟨rfl, hI, hK, hN⟩
          have hub := fun g hg => (Bk.own_blk (g := g) HP.out.1 hg).2
          have HPf := Lib.hid (show ∀ g, (Value.slice A9 t c9).ownBlock = some g → ¬ Bk.more V2 Y0 Y1 (.slice A8 q c8) g from fun g hg hx => by
            rcases hx with h | h | h
            · exact HP.out.2 g hg h
            · exact Bk.own_apart HP.out.1 HG.out.1 (by decide) hg h
            · have := hub g hg; omega)
          have HPff := Lib.hid (show ∀ f ∈ gs, ∀ g, f.pv.ownBlock = some g → ¬ Bk.more V2 Y0 Y1 (.slice A8 q c8) g from fun f hf g hg hx => by
            have h1 := HPn.out f hf g hg
            rcases hx with h | h | h
            · have := HV.out g h; omega
            · have := HGq.out g h; omega
            · have := (Bk.own_blk (HPp.out f hf).2 hg).2; omega)
          have HPs := Lib.hid (show ∀ f ∈ gs, Sep (.slice (some ⟨gm, 0, none⟩) (m + 2) cm) f.pv from fun f hf g hg hx => by
            have h1 := HPn.out f hf g hx
            have := HMb.out g hg; omega)
          have HPw := Lib.hid (show ∀ f ∈ gs, ∀ g, f.pv.ownBlock = some g → w.heap.size ≤ g from fun f hf g hg => Nat.le_trans HX.out (HPn.out f hf g hg))
          have HS1 := Lib.hid (HS.out.push HGs.out HGl.out hI hK)
          have HD1 := Lib.hid (Bk.own_nc HD.out (by decide) hN)
          have HBr1 := Lib.hid (Bk.own_nc HBr.out (by decide) hN)
          have HP1 := Lib.hid (Bk.own_nc HP.out.1 (by decide) hN)
          have HPp1 := Lib.hid (show ∀ f ∈ gs, f.bs.length ≤ 1099511627776 ∧ Y1.ownsRow 0 5 1 f.pv f.bs.length (f.bs.map V8) from fun f hf => ⟨(HPp.out f hf).1, Bk.own_nc (HPp.out f hf).2 (by decide) hN⟩)
          clear hI hK hN HS HD HBr HP HPp hub HG HGl HGs HPn HGq HV HMb HX cg1 hglt
          go_wp2_with fail
          refine (Bk.keepIs13 rfl rfl A9 t c9 gs Y1 HS1.out.is (by omega) Hgl.out HP1.out HPf.out HPp1.out HPff.out HPa.out).mono ?_
          rintro e Y2 ⟨rfl, hF⟩
          obtain ⟨V3, hS3⟩ := HS1.out.frames HP1.out HPl.out HPs.out HPw.out hF
          have HS := Lib.hid hS3
          have HD := Lib.hid (Bk.own_nc HD1.out (by decide) hF.nc)
          have HBr := Lib.hid (Bk.own_nc HBr1.out (by decide) hF.nc)
          clear hF hS3 HS1 HD1 HBr1 HP1 HPf HPp1 HPff HPa HPs HPw HPl Hgl
          go_wp2_with fail
          refine (bytes_calls A4 l c4 Y2.heap.size L Y2 Hl.out.symm (by omega) (Bk.own_nil1 HBr.out) (Nat.le_refl _) (Bk.own_rd HBr.out)).mono ?_
          rintro e Y3 ⟨A6, c6, rfl, hown, hb⟩
          have Hown := Lib.hid (own_below hown ((Below.refl Y3.heap.size Y3).alloc (Nat.le_refl _) (.cells #[.int .u8 47, .int .u8 11] 5)) (Nat.le_refl _))
          have HS6 := Lib.hid (HS.out.below hb)
          have HD6 := Lib.hid (Bk.own_below_any HD.out hb)
          have Hs6 := Lib.hid hb.size
          have Hb6 := Lib.hid hb
          clear hown hb
          go_wp2_with (at_builtin; refine wpList_append_rd rfl _ _ 22 rfl Y2.heap.size 5 i0 _ 1 descU8s Hi.out hz0 hz1 hz2 rfl _ l (L.map V8) rfl Hown.out _ (some ⟨Y3.heap.size, 0, none⟩) 2 2 [.int .u8 47, .int .u8 11] rfl rfl (by intro h; cases h) (rd_fresh _ _ _ _ _ _ rfl rfl) (by intro u hu; simp at hu; rcases hu with rfl | rfl <;> rfl) (by unfold maxLen; omega) (by omega) (by have := Hs6.out; simp; omega) ?_)
          intro dv Y4 hown7 hg7
          have hb7 : Below Y2.heap.size Y3 Y4 := ((Below.refl _ _).alloc Hs6.out _).grown hg7 (by have := Hs6.out; simp; omega) (fun g hg => (Hown.out.lt g hg).1)
          have hb57 := Hb6.out.trans hb7
          have HS := Lib.hid (HS.out.below hb57)
          have HD := Lib.hid (Bk.own_below_any HD.out hb57)
          have HD2 := Lib.hid (show Y4.ownsRow Y2.heap.size 5 1 dv (l + 2) ((L ++ [47#8, 11#8]).map V8) from by rw [List.map_append]; exact hown7)
          obtain ⟨gd2, cd2, rfl, hcd3, hcd4, _⟩ := Bk.own_some HD2.out (by omega)
          clear hown7 hg7 hb7 hb57 Hown HS6 HD6 Hs6 Hb6 HBr hcd3 hcd4
          go_wp2_with fail
          refine (same_calls (some ⟨gd, 0, none⟩) (some ⟨gd2, 0, none⟩) (l + 2) cd (l + 2) cd2 _ _ (L ++ [47#8, 11#8]) (L ++ [47#8, 11#8]) Y4 (by have := Hl.out; simp; omega) (by have := Hl.out; simp; omega) (by intro h; cases h) (by intro h; cases h) (Bk.own_rd HD.out) (Bk.own_rd HD2.out)).mono ?_
          rintro e w' ⟨rfl, rfl⟩
          rw [decide_eq_true rfl]
          clear HD HD2
          by_cases hm0 : m = 0
          · subst hm0
            go_wp2_with fail
            have hrel : ∃ (r1 : Nat) (z1 : List (BitVec 8)) (V1 : Nat → Prop), Value.int .i64 ((r : Int) + 1) = .int .i64 (r1 : Int) ∧ r1 ≤ 2 ∧ FSt w kb 0 (.slice (some ⟨gm, 0, none⟩) (0 + 2) cm) z1 (2200 * i + 1100 * r1) V1 Y4 := ⟨r + 1, zr, _, by congr 1, by omega, HS.out.weak (by omega)⟩
            refine ⟨?_, by simp [intOf]; omega⟩
            repeat (first | (exact ⟨hrel, rfl⟩) | (apply Exists.intro))
          · have p0 : (0 : Int) < (m : Int) := by omega
            obtain ⟨j, hj⟩ : ∃ j, m = j + 1 := ⟨m - 1, by omega⟩
            have ej : (m : Int) - 1 = (j : Int) := by omega
            have hjl : j < zr.length := by have := HS.out.lb; omega
            obtain ⟨c, hc⟩ : ∃ c, zr[j]? = some c := ⟨zr[j], List.getElem?_eq_getElem hjl⟩
            have mc := Bk.own_cell HS.out.mine.1 (k := j) (u := V8 c) (by rw [List.getElem?_map, List.getElem?_append_left hjl, hc]; rfl)
            have mf := Bk.own_frozen HS.out.mine.1 j
            have m2 : (j : Int) < (m : Int) + 2 := by omega
            have Hj := Lib.hid hj; have Hjl := Lib.hid hjl
            clear hc hj hjl hm0
            go_wp2_with fail
            rw [xor_one]
            have hset : ((zr ++ [47#8, 11#8]).map V8).set j (V8 (c ^^^ 1#8)) = (zr.set j (c ^^^ 1#8) ++ [47#8, 11#8]).map V8 := by rw [← List.set_append_left _ _ Hjl.out, List.map_set]
            have HS10 := Lib.hid (HS.out.chM (bs' := zr.set j (c ^^^ 1#8)) ((Kept.set Y4 gm j (V8 (c ^^^ 1#8))).mono (fun x _ h => by subst h; rfl)) (by rw [← hset]; exact Bk.own_set HS.out.mine.1 (by have := Hjl.out; simp; omega) _) (by rw [List.length_set]; exact HS.out.lb))
            exact ⟨⟨r + 1, _, _, by congr 1, by omega, HS10.out.weak (by omega)⟩, by simp [intOf]; omega⟩
        · obtain rfl : r = 2 := by omega
          have HE := Lib.hid HS.out.is
          have HEl := Lib.hid HS.out.low
          have HEb := Lib.hid HS.out.bel
          clear HS
          go_wp2_with fail
          exact ⟨⟨i + 1, V, by congr 1, by omega, HE.out.weak (by omega), HEl.out, HEb.out⟩, by simp [intOf]; omega⟩
    · obtain rfl : i = n := by omega
      go_wp2_with fail
      refine (Bk.finish_calls Bk.allF Bk.usedF_ok W0 HI.out (by omega)).mono ?_
      rintro e k4 ⟨rfl, hK⟩
      have HF := Lib.hid (Bk.kept_low HB.out hK HL.out HB.out.size)
      clear hK HI HL HB
      go_wp2_with fail
      go_ret
      exact ⟨rfl, HF.out⟩
end Go.Proofs.YtmeoafodcniliaaGreatDoor
