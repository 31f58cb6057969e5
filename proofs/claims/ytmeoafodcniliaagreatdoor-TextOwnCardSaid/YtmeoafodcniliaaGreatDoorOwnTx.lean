/- TextOwn: the walk -/
import Derived.Test.YtmeoafodcniliaaGreatDoorOwnTxC
namespace Go.Proofs.YtmeoafodcniliaaGreatDoor
open Go.RowKit
open C4 (EdIs Keep ToIs)
open Bk (Row Is Sep Kept more)
set_option linter.unusedSimpArgs false
set_option linter.unusedVariables false
set_option maxRecDepth 20000
attribute [local go_sem ↓] Bk.build_book Bk.box_book
set_option maxHeartbeats 8000000 in
theorem law_tx (A : Option Addr) (n cap : Nat) (b : List (BitVec 8)) (z : Int) (A2 : Option Addr) (n2 cap2 : Nat) (ps : List (Int × Int)) (w : World)
    (ha : n = b.length ∧ n ≤ cap ∧ cap ≤ maxLen ∧ (A = none → n = 0 ∧ cap = 0) ∧ Rd w w.heap.size A (b.map V8)) (hz : -9223372036854775808 ≤ z ∧ z ≤ 9223372036854775807)
    (hp : n2 = ps.length ∧ n2 ≤ cap2 ∧ cap2 ≤ maxLen ∧ (A2 = none → n2 = 0 ∧ cap2 = 0) ∧ Rd w w.heap.size A2 (C4.pcs ps) ∧ ∀ p ∈ ps, (-9223372036854775808 ≤ p.1 ∧ p.1 ≤ 9223372036854775807) ∧ -9223372036854775808 ≤ p.2 ∧ p.2 ≤ 9223372036854775807) (hpow : C4.Pow w.heap.size w) :
    Calls Tryz.prog 3 #[.slice A n cap, .int .i64 z, .slice A2 n2 cap2] w fun e w' => e = .returned (.bool true) ∧ Below w.heap.size w w' := by
  obtain ⟨hn, hc, hcm, hnil, hr⟩ := ha
  obtain ⟨hn2, hc2, hcm2, hnil2, hr2, hin⟩ := hp
  have Hn := Lib.hid hn; have Hr := Lib.hid hr; have Hnil := Lib.hid hnil; have Hcm := Lib.hid hcm
  have Hn2 := Lib.hid hn2; have Hr2 := Lib.hid hr2; have Hin := Lib.hid hin; have Hcm2 := Lib.hid hcm2; have Hpow := Lib.hid hpow
  unfold maxLen at hcm hcm2
  clear hn hr hnil hn2 hr2 hnil2 hin hpow
  obtain ⟨i0, hi0, hz0, hz1, hz2⟩ := info_parts C4.infoPa
  have Hi := Lib.hid hi0
  clear hi0
  go_enter Tryz.func3, Tryz.ntmps3
  go_wp2_with fail
  refine (C4.first_calls w).mono ?_
  rintro e w1 ⟨rfl, hb1⟩
  have HB1 := Lib.hid hb1
  have hs1 := hb1.size
  clear hb1
  by_cases hbig : (4000 : Int) < (n : Int)
  · go_wp2_with fail
    go_ret
    exact ⟨rfl, HB1.out⟩
  have hn4 : n ≤ 4000 := by omega
  by_cases hbig2 : (1000 : Int) < (n2 : Int)
  · go_wp2_with fail
    go_ret
    exact ⟨rfl, HB1.out⟩
  have hn1 : n2 ≤ 1000 := by omega
  go_wp2_with fail
  obtain ⟨w2, hw2⟩ : ∃ x, x = w1.alloc (.cells Bk.book0 44) := ⟨_, rfl⟩
  have HI2 := Lib.hid (show Is Bk.usedT w2 w1.heap.size (fun g => g = w1.heap.size) 0 by rw [hw2]; exact Is.new Bk.usedT w1)
  have HB2 := Lib.hid (HB1.out.trans (show Below w.heap.size w1 w2 by rw [hw2]; exact (Below.refl _ _).alloc hs1 _))
  have Hsz2 := Lib.hid (show w2.heap.size = w1.heap.size + 1 by rw [hw2]; simp)
  rw [← hw2]
  clear hw2
  obtain ⟨kb, hkb⟩ : ∃ kb, kb = w1.heap.size := ⟨_, rfl⟩
  rw [← hkb] at HI2 Hsz2 hs1 ⊢
  clear hkb
  refine (C4.NewEdges_calls w2).mono ?_
  rintro e w3 ⟨rfl, hw3⟩
  have Hz3 := Lib.hid (show w3.heap.size = w2.heap.size + 1 by rw [hw3]; simp)
  have hb3 : Below w2.heap.size w2 w3 := by rw [hw3]; exact (Below.refl _ _).alloc (Nat.le_refl _) _
  have HSc := Lib.hid (show Sc w3 w2.heap.size (.slice none 0 0) [] by rw [hw3]; exact sc_new w2)
  have HI3 := Lib.hid (HI2.out.below hb3)
  have HB3 := Lib.hid (HB2.out.trans (hb3.mono HB2.out.size))
  clear hw3
  go_wp2_with fail
  obtain ⟨w4, hw4⟩ : ∃ x, x = w3.alloc (.cells #[.slice none 0 0, .int .i64 0, .int .i64 0, .int .i64 0] 48) := ⟨_, rfl⟩
  have hb4 : Below w3.heap.size w3 w4 := by rw [hw4]; exact (Below.refl _ _).alloc (Nat.le_refl _) _
  have HT0 := Lib.hid (show TSt w kb w2.heap.size w3.heap.size (.slice none 0 0) (.slice none 0 0) [] [] 0 0 (fun g => g = kb) w4 from by
    have hk := Hsz2.out
    have hz3 := Hz3.out
    refine ⟨HI3.out.below hb4, HSc.out.below hb4, by rw [hw4]; exact heap_alloc_new _ _, World.ownsRow_nil _ _ _ _, fun x hx => ?_, by omega, (fun x hx => by rw [hx]; exact hs1), HB3.out.trans (hb4.mono HB3.out.size)⟩
    have := HB2.out.size
    rcases hx with rfl | rfl | hx | hx
    · exact ⟨by omega, this⟩
    · exact ⟨by omega, by omega⟩
    · cases hx
    · cases hx)
  rw [← hw4]
  clear hw4 hb4 hb3 HSc HI3 HB3 HI2 HB2 Hsz2 Hz3
  generalize w2.heap.size = g at *
  generalize w3.heap.size = ga at *
  obtain ⟨U0, hU0⟩ : ∃ U : Nat → Prop, U = fun g => g = kb := ⟨_, rfl⟩
  rw [← hU0] at HT0
  clear hU0
  go_loopw [11] (fun iv wr => ∃ (i : Nat) (U : Nat → Prop) (rv av : Value), iv = .int .i64 (i : Int) ∧ i ≤ 2 ∧ TSt w kb g ga rv av (reps b i) (RunW (reps b i)).pairs (RunW (reps b i)).e (6 * i) U wr) (fun iv _ => 2 - (intOf iv).toNat)
  case atStart => exact ⟨0, U0, .slice none 0 0, .slice none 0 0, rfl, by omega, HT0.out⟩
  case round =>
    obtain ⟨i, U, rv, av, rfl, hi2, hst⟩ := hrel
    clear HT0
    obtain ⟨Aa, ca, rfl⟩ := C4.own_size hst.al
    obtain ⟨t, ht⟩ : ∃ t, (RunW (reps b i)).pairs.length = t := ⟨_, rfl⟩
    rw [ht] at hst
    have Ht := Lib.hid ht
    clear ht
    have HS := Lib.hid hst
    clear hst
    generalize wr = W0 at *
    by_cases hlt : i < 2
    · have q1 : (i : Int) < 2 := by omega
      go_wp2_with fail
      refine (bytes_calls A n cap w.heap.size b W0 Hn.out (by omega) Hnil.out HS.out.bel.size (Hr.out.below HS.out.bel (Nat.le_refl _))).mono ?_
      rintro e W1 ⟨Am, cm, rfl, hown, hb⟩
      have HM := Lib.hid (HS.out.fresh hown)
      have HS := Lib.hid (HS.out.below hb)
      clear hown hb
      go_wp2_with fail
      refine (C4.pairs_calls A2 n2 cap2 w.heap.size ps W1 Hn2.out (by omega) HS.out.bel.size (Hr2.out.below HS.out.bel (Nat.le_refl _))).mono ?_
      rintro e W2 ⟨Al, cl, rfl, hown, hb⟩
      have HL := Lib.hid (HS.out.fresh hown)
      have HS := Lib.hid (HS.out.below hb)
      have HM := Lib.hid (HM.out.below hb)
      clear hown hb
      go_wp2_with fail
      refine (C4.Parse_calls Am n cm W2.heap.size b W2 Hn.out (by omega) (Bk.own_caps HM.out.1).1 (Bk.own_nil1 HM.out.1) (Nat.le_refl _) (Bk.own_rd HM.out.1)).mono ?_
      rintro e W3 ⟨Ap, cp, rfl, hown, hb⟩
      have hp1 := pEnd_le b
      generalize (C4.Tx.all b).pEnd = P1 at *
      obtain ⟨x1, hx1⟩ : ∃ x, (if (C4.Tx.all b).eEnd = 0 then (C4.Tx.all b).n else 0) = x := ⟨_, rfl⟩
      obtain ⟨x2, hx2⟩ : ∃ x, (C4.Tx.all b).fEnd 0 0 = x := ⟨_, rfl⟩
      obtain ⟨x3, hx3⟩ : ∃ x, (C4.Tx.all b).eEnd = x := ⟨_, rfl⟩
      rw [hx1, hx2, hx3]
      clear hx1 hx2 hx3
      obtain ⟨p1, hq⟩ : ∃ p, P1.length = p := ⟨_, rfl⟩
      rw [hq] at hown hp1 ⊢
      have Hq1 := Lib.hid hq
      have HP := Lib.hid (HS.out.fresh hown)
      have HLP := Lib.hid (Bk.sep_new HL.out.1 hown)
      have HS := Lib.hid (HS.out.below hb)
      have HM := Lib.hid (HM.out.below hb)
      have HL := Lib.hid (HL.out.below hb)
      have hp1 : p1 ≤ 5000 := by have := Hn.out; omega
      clear hown hb hq
      go_wp2_with fail
      refine (C4.Changes_calls Am n cm W3.heap.size b z W3 Hn.out (by omega) (Bk.own_caps HM.out.1).1 (Bk.own_caps HM.out.1).2 (Bk.own_nil1 HM.out.1) (Nat.le_refl _) (Bk.own_rd HM.out.1)).mono ?_
      rintro e W4 ⟨Aq, cq, rfl, hown, hb⟩
      have hp2 := out_le z b
      generalize (C4.Tx.chRun z (C4.Tx.pieces b)).line = y1 at *
      generalize (C4.Tx.chRun z (C4.Tx.pieces b)).e = y2 at *
      generalize (C4.Tx.chRun z (C4.Tx.pieces b)).out = Q at *
      obtain ⟨q1, hq⟩ : ∃ q, Q.length = q := ⟨_, rfl⟩
      rw [hq] at hown hp2 ⊢
      have Hq2 := Lib.hid hq
      have HQ := Lib.hid (HS.out.fresh hown)
      have HS := Lib.hid (HS.out.below hb)
      have HM := Lib.hid (HM.out.below hb)
      have HL := Lib.hid (HL.out.below hb)
      have HP := Lib.hid (HP.out.below hb)
      have hp2 : q1 ≤ 5000 := by have := Hn.out; omega
      clear hown hb hq
      go_wp2_with fail
      refine (C4.Print_calls z Al n2 cl W4.heap.size ps W4 hz.1 hz.2 Hn2.out (by omega) (Nat.le_refl _) (Bk.own_rd HL.out.1) Hin.out (fun w' hb => Hpow.out w' (HS.out.bel.trans (hb.mono HS.out.bel.size)))).mono ?_
      rintro e W5 ⟨Ac, cc, rfl, hown, hb⟩
      have hp3 := printF_len z hz ps Hin.out
      generalize (C4.Tx.printF z ps).2 = y3 at *
      generalize (C4.Tx.printF z ps).1 = C at *
      obtain ⟨c1, hq⟩ : ∃ q, C.length = q := ⟨_, rfl⟩
      rw [hq] at hown hp3 ⊢
      have Hq3 := Lib.hid hq
      have HC := Lib.hid (HS.out.fresh hown)
      have HMC := Lib.hid (Bk.sep_new HM.out.1 hown)
      have HS := Lib.hid (HS.out.below hb)
      have HM := Lib.hid (HM.out.below hb)
      have HL := Lib.hid (HL.out.below hb)
      have HP := Lib.hid (HP.out.below hb)
      have HQ := Lib.hid (HQ.out.below hb)
      have hp3 : c1 ≤ 50000 := by have := Hn2.out; omega
      clear hown hb hq
      go_wp2_with fail
      have hrl : (reps b i).length ≤ 8000 := by
        rw [reps_len, ← Hn.out]
        have : i * n ≤ 2 * n := Nat.mul_le_mul_right _ hi2
        omega
      refine (feed_sc HS.out.sc (by omega) Am n cm W5.heap.size b Hn.out (by omega) (Bk.own_caps HM.out.1).1 (Bk.own_nil1 HM.out.1) (Nat.le_refl _) (Bk.own_rd HM.out.1)).mono ?_
      rintro e Y0 ⟨Ax, cx, X, ee, rv', rfl, hown, hk, hsc, hrv, hlen, hok, hbad⟩
      obtain ⟨ap1, ap2⟩ := HS.out.apart
      have HX := Lib.hid (HS.out.freshF hsc hown)
      have HPX := Lib.hid (Bk.sep_new HP.out.1 hown)
      have HLX := Lib.hid (Bk.sep_new HL.out.1 hown)
      have HM := Lib.hid (HM.out.feed hk hrv)
      have HL := Lib.hid (HL.out.feed hk hrv)
      have HP := Lib.hid (HP.out.feed hk hrv)
      have HQ := Lib.hid (HQ.out.feed hk hrv)
      have HC := Lib.hid (HC.out.feed hk hrv)
      have HS := Lib.hid (HS.out.feed hk hsc hrv (fun x hx => ⟨(ap1 x hx).1, (ap1 x hx).2.2⟩) (fun e => (ap2 g e).2.1 rfl))
      obtain ⟨x1, hq⟩ : ∃ q, X.length = q := ⟨_, rfl⟩
      rw [hq] at HX HPX HLX hlen ⊢
      have Hq4 := Lib.hid hq
      have Hok := Lib.hid hok; have Hbad := Lib.hid hbad
      have hlen : x1 ≤ 20000 := by have := Hn.out; omega
      have htl : t ≤ 8000 := by have := (sc_sizes (reps b i)).1; have := Ht.out; omega
      clear hown hk hsc hrv hok hbad hq ap1 ap2
      have c0 := HS.out.tl.c0
      have c1' := HS.out.tl.c1
      by_cases h0 : (RunW (reps b i)).e = 0
      · rw [h0] at c1'
        obtain ⟨ok1, ok2⟩ := Hok.out h0
        obtain ⟨ap1, ap2⟩ := HS.out.apart
        have Hok1 := Lib.hid ok1; have Hok2 := Lib.hid ok2; have Hap1 := Lib.hid ap1; have Hap2 := Lib.hid ap2
        have HA := Lib.hid (show Y0.ownsRow 0 127 2 (.slice Aa t ca) t (C4.pcs (RunW (reps b i)).pairs) from by have := HS.out.al; rw [Ht.out] at this; exact this)
        have HnX := Lib.hid (Bk.own_nil1 HX.out.1); have HrX := Lib.hid (Bk.own_rd HX.out.1)
        clear ok1 ok2 ap1 ap2 h0 Hok Hbad
        go_wp2_with (first
          | (at_builtin; refine wpList_append_all rfl _ _ 23 rfl 127 i0 _ 2 16 C4.descPas Hi.out hz0 hz1 hz2 rfl (by decide) _ t (C4.pcs (RunW (reps b i)).pairs) rfl HA.out Y0.heap.size Ax x1 cx (C4.pcs X) rfl (by rw [C4.pcs_length, Hq4.out]) HnX.out HrX.out (C4.pcs_one X) (by unfold maxLen; omega) (by omega) ?_; intro v9 w9 hown9 hk9 hn9; obtain ⟨A9, c9, rfl⟩ := C4.own_size hown9; have ht9 := ToIs_kept HS.out.tl hk9 (fun e => (Hap2.out _ e).1 rfl); have q1 := ht9.f 0; have q2 := ht9.f 1; have q3 := ht9.c0; have q4 := ht9.c1; have Ht9 := Lib.hid ht9; have Hown9 := Lib.hid hown9; have Hk9 := Lib.hid hk9; have Hn9 := Lib.hid hn9; clear ht9 hown9 hk9 hn9 c0 c1')
          | (go_at_call 16; refine (C4.num_calls _ _).mono ?_; rintro en wC ⟨rfl, rfl⟩))
        have hK2 : Kept (fun x => x = ga) w9 ((w9.setCell ⟨ga, 0, none⟩ (.slice A9 (t + x1) c9)).setCell ⟨ga, 1, none⟩ (.int .i64 ee)) := (Kept.set w9 ga 0 _).trans (Kept.set _ ga 1 _) (fun _ h => .inl h)
        have hKK : Kept (fun x => x = ga ∨ (Value.slice Aa t ca).ownBlock = some x) Y0 _ := (Hk9.out.mono (fun x _ h => .inr h)).trans hK2 (fun x h => .inl (.inl h))
        have hown7 := Bk.own_kept Hown9.out hK2 (fun x hx e => Bk.own_not_cells Hown9.out Ht9.out (by decide) (e ▸ hx))
        have hto7 := (Ht9.out.s0 (.slice A9 (t + x1) c9)).s1 ee
        have HM := Lib.hid (HM.out.tell hKK (fun x h => h) Hn9.out)
        have HL := Lib.hid (HL.out.tell hKK (fun x h => h) Hn9.out)
        have HP := Lib.hid (HP.out.tell hKK (fun x h => h) Hn9.out)
        have HQ := Lib.hid (HQ.out.tell hKK (fun x h => h) Hn9.out)
        have HC := Lib.hid (HC.out.tell hKK (fun x h => h) Hn9.out)
        have HX := Lib.hid (HX.out.tell hKK (fun x h => h) Hn9.out)
        have HS := Lib.hid (show TSt w kb g ga rv' (.slice A9 (t + x1) c9) (reps b (i + 1)) (RunW (reps b (i + 1))).pairs (RunW (reps b (i + 1))).e (6 * i) U _ from HS.out.tell hKK (fun x h => h)
          (by rw [show (RunW (reps b (i + 1))).pairs = (RunW (reps b i)).pairs ++ X from Hok1.out, List.length_append, C4.pcs_append, Ht.out, Hq4.out]; exact hown7)
          (by rw [show (RunW (reps b (i + 1))).e = ee from Hok2.out]; exact hto7) Hn9.out (fun x hx => ⟨(Hap2.out x hx).2.1, (Hap2.out x hx).2.2⟩) (fun e => (Hap1.out _ e).1 rfl))
        generalize (w9.setCell ⟨ga, 0, none⟩ (.slice A9 (t + x1) c9)).setCell ⟨ga, 1, none⟩ (.int .i64 ee) = Z0 at *
        clear hK2 hKK hown7 hto7 q1 q2 q3 q4 Ht9 Hown9 Hk9 Hn9 HA HnX HrX Hok1 Hok2 Hap1 Hap2
        refine (Bk.keepIs7 rfl 0 Ap p1 cp P1 Z0 HS.out.is (by omega) Hq1.out (by omega) HP.out.1 HP.out.free).mono ?_
        rintro e Z1 ⟨rfl, hI, hK⟩
        have HQn := Lib.hid (HQ.out.keep hK (Bk.sep_type HQ.out.1 HP.out.1 (by decide)))
        have HCn := Lib.hid (HC.out.keep hK (Bk.sep_type HC.out.1 HP.out.1 (by decide)))
        have HXn := Lib.hid (HX.out.keep hK HPX.out.symm)
        have HMn := Lib.hid (HM.out.keep hK (Bk.sep_type HM.out.1 HP.out.1 (by decide)))
        have HLn := Lib.hid (HL.out.keep hK HLP.out)
        have HS := Lib.hid (HS.out.push HP.out hI hK)
        clear hI hK HP HQ HC HX HM HL
        have HQ := HQn
        clear HQn
        have HC := HCn
        clear HCn
        have HX := HXn
        clear HXn
        have HM := HMn
        clear HMn
        have HL := HLn
        clear HLn
        go_wp2_with fail
        refine (Bk.keepIs8 rfl 0 Aq q1 cq (Q.map fun c => (c.u, c.v, c.gone)) Z1 HS.out.is (by omega) (by rw [List.length_map]; exact Hq2.out) (by omega) (by have h := HQ.out.1; rw [chs_triples] at h; exact h) HQ.out.free).mono ?_
        rintro e Z2 ⟨rfl, hI, hK⟩
        have HCn := Lib.hid (HC.out.keep hK (Bk.sep_type HC.out.1 HQ.out.1 (by decide)))
        have HXn := Lib.hid (HX.out.keep hK (Bk.sep_type HX.out.1 HQ.out.1 (by decide)))
        have HMn := Lib.hid (HM.out.keep hK (Bk.sep_type HM.out.1 HQ.out.1 (by decide)))
        have HLn := Lib.hid (HL.out.keep hK (Bk.sep_type HL.out.1 HQ.out.1 (by decide)))
        have HS := Lib.hid (HS.out.push HQ.out hI hK)
        clear hI hK HQ HC HX HM HL
        have HC := HCn
        clear HCn
        have HX := HXn
        clear HXn
        have HM := HMn
        clear HMn
        have HL := HLn
        clear HLn
        go_wp2_with fail
        refine (Bk.keepIs0 rfl 0 Ac c1 cc C Z2 HS.out.is (by omega) Hq3.out (by omega) HC.out.1 HC.out.free).mono ?_
        rintro e Z3 ⟨rfl, hI, hK⟩
        have HXn := Lib.hid (HX.out.keep hK (Bk.sep_type HX.out.1 HC.out.1 (by decide)))
        have HMn := Lib.hid (HM.out.keep hK HMC.out)
        have HLn := Lib.hid (HL.out.keep hK (Bk.sep_type HL.out.1 HC.out.1 (by decide)))
        have HS := Lib.hid (HS.out.push HC.out hI hK)
        clear hI hK HC HX HM HL
        have HX := HXn
        clear HXn
        have HM := HMn
        clear HMn
        have HL := HLn
        clear HLn
        go_wp2_with fail
        refine (Bk.keepIs7 rfl 0 Ax x1 cx X Z3 HS.out.is (by omega) Hq4.out (by omega) HX.out.1 HX.out.free).mono ?_
        rintro e Z4 ⟨rfl, hI, hK⟩
        have HMn := Lib.hid (HM.out.keep hK (Bk.sep_type HM.out.1 HX.out.1 (by decide)))
        have HLn := Lib.hid (HL.out.keep hK HLX.out)
        have HS := Lib.hid (HS.out.push HX.out hI hK)
        clear hI hK HX HM HL
        have HM := HMn
        clear HMn
        have HL := HLn
        clear HLn
        go_wp2_with fail
        refine (Bk.keepIs0 rfl 0 Am n cm b Z4 HS.out.is (by omega) Hn.out.symm (by omega) HM.out.1 HM.out.free).mono ?_
        rintro e Z5 ⟨rfl, hI, hK⟩
        have HLn := Lib.hid (HL.out.keep hK (Bk.sep_type HL.out.1 HM.out.1 (by decide)))
        have HS := Lib.hid (HS.out.push HM.out hI hK)
        clear hI hK HM HL
        have HL := HLn
        clear HLn
        go_wp2_with fail
        refine (Bk.keepIs7 rfl 0 Al n2 cl ps Z5 HS.out.is (by omega) Hn2.out.symm (by omega) HL.out.1 HL.out.free).mono ?_
        rintro e Z6 ⟨rfl, hI, hK⟩
        have HS := Lib.hid (HS.out.push HL.out hI hK)
        clear hI hK HL 
        go_wp2_with fail
        exact ⟨⟨i + 1, _, _, _, by congr 1, by omega, HS.out.weak (by omega)⟩, by simp [intOf]; omega⟩
      · have h0' : ((RunW (reps b i)).e == 0) = false := by simpa using h0
        go_wp2_with fail
        have HS := Lib.hid (show TSt w kb g ga rv' (.slice Aa t ca) (reps b (i + 1)) (RunW (reps b (i + 1))).pairs (RunW (reps b (i + 1))).e (6 * i) U Y0 from by
          have e : RunW (reps b (i + 1)) = RunW (reps b i) := Hbad.out h0
          rw [e]; exact HS.out)
        generalize Y0 = Z0 at *
        clear c0 c1' h0 h0' Hok Hbad
        refine (Bk.keepIs7 rfl 0 Ap p1 cp P1 Z0 HS.out.is (by omega) Hq1.out (by omega) HP.out.1 HP.out.free).mono ?_
        rintro e Z1 ⟨rfl, hI, hK⟩
        have HQn := Lib.hid (HQ.out.keep hK (Bk.sep_type HQ.out.1 HP.out.1 (by decide)))
        have HCn := Lib.hid (HC.out.keep hK (Bk.sep_type HC.out.1 HP.out.1 (by decide)))
        have HXn := Lib.hid (HX.out.keep hK HPX.out.symm)
        have HMn := Lib.hid (HM.out.keep hK (Bk.sep_type HM.out.1 HP.out.1 (by decide)))
        have HLn := Lib.hid (HL.out.keep hK HLP.out)
        have HS := Lib.hid (HS.out.push HP.out hI hK)
        clear hI hK HP HQ HC HX HM HL
        have HQ := HQn
        clear HQn
        have HC := HCn
        clear HCn
        have HX := HXn
        clear HXn
        have HM := HMn
        clear HMn
        have HL := HLn
        clear HLn
        go_wp2_with fail
        refine (Bk.keepIs8 rfl 0 Aq q1 cq (Q.map fun c => (c.u, c.v, c.gone)) Z1 HS.out.is (by omega) (by rw [List.length_map]; exact Hq2.out) (by omega) (by have h := HQ.out.1; rw [chs_triples] at h; exact h) HQ.out.free).mono ?_
        rintro e Z2 ⟨rfl, hI, hK⟩
        have HCn := Lib.hid (HC.out.keep hK (Bk.sep_type HC.out.1 HQ.out.1 (by decide)))
        have HXn := Lib.hid (HX.out.keep hK (Bk.sep_type HX.out.1 HQ.out.1 (by decide)))
        have HMn := Lib.hid (HM.out.keep hK (Bk.sep_type HM.out.1 HQ.out.1 (by decide)))
        have HLn := Lib.hid (HL.out.keep hK (Bk.sep_type HL.out.1 HQ.out.1 (by decide)))
        have HS := Lib.hid (HS.out.push HQ.out hI hK)
        clear hI hK HQ HC HX HM HL
        have HC := HCn
        clear HCn
        have HX := HXn
        clear HXn
        have HM := HMn
        clear HMn
        have HL := HLn
        clear HLn
        go_wp2_with fail
        refine (Bk.keepIs0 rfl 0 Ac c1 cc C Z2 HS.out.is (by omega) Hq3.out (by omega) HC.out.1 HC.out.free).mono ?_
        rintro e Z3 ⟨rfl, hI, hK⟩
        have HXn := Lib.hid (HX.out.keep hK (Bk.sep_type HX.out.1 HC.out.1 (by decide)))
        have HMn := Lib.hid (HM.out.keep hK HMC.out)
        have HLn := Lib.hid (HL.out.keep hK (Bk.sep_type HL.out.1 HC.out.1 (by decide)))
        have HS := Lib.hid (HS.out.push HC.out hI hK)
        clear hI hK HC HX HM HL
        have HX := HXn
        clear HXn
        have HM := HMn
        clear HMn
        have HL := HLn
        clear HLn
        go_wp2_with fail
        refine (Bk.keepIs7 rfl 0 Ax x1 cx X Z3 HS.out.is (by omega) Hq4.out (by omega) HX.out.1 HX.out.free).mono ?_
        rintro e Z4 ⟨rfl, hI, hK⟩
        have HMn := Lib.hid (HM.out.keep hK (Bk.sep_type HM.out.1 HX.out.1 (by decide)))
        have HLn := Lib.hid (HL.out.keep hK HLX.out)
        have HS := Lib.hid (HS.out.push HX.out hI hK)
        clear hI hK HX HM HL
        have HM := HMn
        clear HMn
        have HL := HLn
        clear HLn
        go_wp2_with fail
        refine (Bk.keepIs0 rfl 0 Am n cm b Z4 HS.out.is (by omega) Hn.out.symm (by omega) HM.out.1 HM.out.free).mono ?_
        rintro e Z5 ⟨rfl, hI, hK⟩
        have HLn := Lib.hid (HL.out.keep hK (Bk.sep_type HL.out.1 HM.out.1 (by decide)))
        have HS := Lib.hid (HS.out.push HM.out hI hK)
        clear hI hK HM HL
        have HL := HLn
        clear HLn
        go_wp2_with fail
        refine (Bk.keepIs7 rfl 0 Al n2 cl ps Z5 HS.out.is (by omega) Hn2.out.symm (by omega) HL.out.1 HL.out.free).mono ?_
        rintro e Z6 ⟨rfl, hI, hK⟩
        have HS := Lib.hid (HS.out.push HL.out hI hK)
        clear hI hK HL 
        go_wp2_with fail
        exact ⟨⟨i + 1, _, _, _, by congr 1, by omega, HS.out.weak (by omega)⟩, by simp [intOf]; omega⟩
    · obtain rfl : i = 2 := by omega
      go_wp2_with fail
      refine (Bk.finish_calls Bk.allT Bk.usedT_ok W0 HS.out.is (by omega)).mono ?_
      rintro e W1 ⟨rfl, hK⟩
      have HF := Lib.hid (HS.out.finish hK)
      clear HS hK
      go_wp2_with fail
      refine (bytes_calls A n cap w.heap.size b W1 Hn.out (by omega) Hnil.out HF.out.bel.size (Hr.out.below HF.out.bel (Nat.le_refl _))).mono ?_
      rintro e W2 ⟨Ab, cb, rfl, hown, hb⟩
      have Hown := Lib.hid hown
      have HF2 := Lib.hid (HF.out.below hb)
      have Hb := Lib.hid hb
      have Hrb := Lib.hid (Hr.out.below HF2.out.bel (Nat.le_refl _))
      obtain ⟨i8, h8, h80, h81, h82⟩ := info_parts infoU8
      have H8 := Lib.hid h8
      clear hown hb h8
      go_wp2_with (at_builtin; refine wpList_append_rd rfl _ _ 22 rfl W1.heap.size 5 i8 _ 1 descU8s H8.out h80 h81 h82 rfl _ n (b.map V8) rfl Hown.out w.heap.size A n cap (b.map V8) rfl (by rw [List.length_map]; exact Hn.out) Hnil.out Hrb.out (v8_one b) (by unfold maxLen; omega) (by omega) (by have := Hb.out.size; omega) ?_)
      intro v2 W3 hown3 hg3
      rw [← List.map_append] at hown3
      obtain ⟨At, ct, rfl⟩ := C4.own_size hown3
      have hb3 : Below W1.heap.size W2 W3 := (Below.refl _ _).grown hg3 Hb.out.size (fun x hx => (Hown.out.lt x hx).1)
      have HF := Lib.hid (HF.out.below (Hb.out.trans hb3))
      have HT := Lib.hid hown3
      clear hown3 hg3 hb3 Hown HF2 Hb Hrb H8
      go_wp2_with fail
      refine (C4.scanned_calls At (n + n) ct W3.heap.size (b ++ b) none 0 0 W3.heap.size [] W3 (by rw [List.length_append, ← Hn.out]) (by omega) (Bk.own_caps HT.out).1 (Bk.own_caps HT.out).2 (Bk.own_nil1 HT.out) (Nat.le_refl _) (Bk.own_rd HT.out) rfl (Nat.le_refl _) (by unfold maxLen; omega) (Nat.le_refl _) (Rd.nil _ _ _)).mono ?_
      rintro e W4 ⟨Aw, cw, rfl, hown4, hb4⟩
      have hbb : reps b 2 = b ++ b := by show ([] ++ b) ++ b = _; rw [List.nil_append]
      rw [← hbb] at hown4 ⊢
      have HF3 := HF
      have HF := Lib.hid (HF.out.below hb4)
      generalize (C4.Tx.all (reps b 2)).n = y4 at *
      generalize (C4.Tx.all (reps b 2)).fEnd 0 0 = y5 at *
      obtain ⟨E, hE⟩ : ∃ E, E = (C4.Tx.all (reps b 2)).eEnd := ⟨_, rfl⟩
      obtain ⟨T, hT⟩ : ∃ T, T = C4.Tx.told (reps b 2) := ⟨_, rfl⟩
      rw [← hE]
      rw [← hT] at hown4 ⊢
      have HE := Lib.hid hE; have HTo := Lib.hid hT
      obtain ⟨tt, htt⟩ : ∃ tt, T.length = tt := ⟨_, rfl⟩
      rw [htt] at hown4 ⊢
      have Htt := Lib.hid htt
      have HW := Lib.hid hown4
      have hWg := Lib.hid (fun x hx => (Bk.own_blk (g := x) hown4 hx).2)
      clear hown4 hb4 hE hT htt hbb HT
      go_upto_region 30 with fail
      have hal : Below W4.heap.size W4 (W4.alloc (.cells #[.slice Aw tt cw, .int .i64 E, .int .i64 y4, .int .i64 y5] 48)) := (Below.refl _ _).alloc (Nat.le_refl _) _
      have HWI := Lib.hid (show ToIs (W4.alloc (.cells #[.slice Aw tt cw, .int .i64 E, .int .i64 y4, .int .i64 y5] 48)) W4.heap.size (.slice Aw tt cw) E y4 y5 from heap_alloc_new _ _)
      have Hgw := Lib.hid (show g < W4.heap.size ∧ ga < W4.heap.size ∧ (∀ x, (Value.slice Aa t ca).ownBlock = some x → x < W4.heap.size) ∧ w.heap.size ≤ W4.heap.size from ⟨HF.out.sc.lt, HF.out.tl.lt, fun x hx => (Bk.own_blk HF.out.al hx).2, HF.out.bel.size⟩)
      have HWg := Lib.hid (show ∀ x, (Value.slice Aw tt cw).ownBlock = some x → x ≠ g ∧ x ≠ ga ∧ ∀ y, (Value.slice Aa t ca).ownBlock = some y → x ≠ y from fun x hx => by
        have h1 := (Bk.own_blk HW.out hx).1
        exact ⟨by have := HF3.out.sc.lt; omega, by have := HF3.out.tl.lt; omega, fun y hy => by have := (Bk.own_blk HF3.out.al hy).2; omega⟩)
      have HF := Lib.hid (HF.out.below hal)
      have HW := Lib.hid (Bk.own_below_any HW.out hal)
      generalize W4.alloc (.cells #[.slice Aw tt cw, .int .i64 E, .int .i64 y4, .int .i64 y5] 48) = W5 at *
      generalize W4.heap.size = gw at *
      clear hal hWg HF3
      have c1' := HF.out.tl.c1
      by_cases h0 : (RunW (reps b 2)).e = 0
      · rw [h0] at c1'
        go_wp2_with fail
        clear c1'
        have hrl : (reps b 2).length ≤ 8000 := by rw [reps_len, ← Hn.out]; omega
        refine (end_sc HF.out.sc (by omega)).mono ?_
        rintro e W6 ⟨Ax, cx, X, ee, rfl, hown, hk, hlen, hok⟩
        obtain ⟨ok1, ok2⟩ := hok h0
        have hap := HF.out.apart
        have HX := Lib.hid hown
        have HWI := Lib.hid (ToIs_kept HWI.out hk (fun e => by have := Hgw.out.1; omega))
        have HW := Lib.hid (Bk.own_kept HW.out hk (fun x hx e => (HWg.out x hx).1 e))
        have Hto := Lib.hid (ToIs_kept HF.out.tl hk (fun e => HF.out.ne e.symm))
        have HA := Lib.hid (show W6.ownsRow 0 127 2 (.slice Aa t ca) t (C4.pcs (RunW (reps b 2)).pairs) from by have := Bk.own_kept HF.out.al hk (fun x hx e => (hap x hx).2 e); rw [Ht.out] at this; exact this)
        have Hlow := Lib.hid HF.out.out
        have HB := Lib.hid (HF.out.bel.trans (hk.below HF.out.bel.size (fun x hx => by rw [hx]; exact HF.out.out g (.inl rfl))))
        have Hap := Lib.hid hap
        obtain ⟨x1, hq⟩ : ∃ q, X.length = q := ⟨_, rfl⟩
        rw [hq] at HX hlen ⊢
        have Hq4 := Lib.hid hq
        have htl : t ≤ 8000 := by have := (sc_sizes (reps b 2)).1; have := Ht.out; omega
        have HT2 := Lib.hid (show T = (RunW (reps b 2)).pairs ++ X from HTo.out.trans ok1)
        have HE2 := Lib.hid (show E = ee from HE.out.trans ok2)
        have c0 := Hto.out.c0
        have HnX := Lib.hid (Bk.own_nil1 HX.out); have HrX := Lib.hid (Bk.own_rd HX.out)
        clear hown hk hok ok1 ok2 hap hq h0 HF HE HTo
        go_upto_region 34 with (first
          | (at_builtin; refine wpList_append_all rfl _ _ 23 rfl 127 i0 _ 2 16 C4.descPas Hi.out hz0 hz1 hz2 rfl (by decide) _ t (C4.pcs (RunW (reps b 2)).pairs) rfl HA.out W6.heap.size Ax x1 cx (C4.pcs X) rfl (by rw [C4.pcs_length, Hq4.out]) HnX.out HrX.out (C4.pcs_one X) (by unfold maxLen; omega) (by omega) ?_; intro v9 w9 hown9 hk9 hn9; obtain ⟨A9, c9, rfl⟩ := C4.own_size hown9; have ht9 := ToIs_kept Hto.out hk9 (fun e => (Hap.out _ e).1 rfl); have q1 := ht9.f 0; have q2 := ht9.f 1; have q3 := ht9.c0; have q4 := ht9.c1; have Ht9 := Lib.hid ht9; have Hown9 := Lib.hid hown9; have Hk9 := Lib.hid hk9; have Hn9 := Lib.hid hn9; clear ht9 hown9 hk9 hn9 c0)
          | (go_at_call 16; refine (C4.num_calls _ _).mono ?_; rintro en wC ⟨rfl, rfl⟩))
        have hK2 : Kept (fun x => x = ga) w9 ((w9.setCell ⟨ga, 0, none⟩ (.slice A9 (t + x1) c9)).setCell ⟨ga, 1, none⟩ (.int .i64 ee)) := (Kept.set w9 ga 0 _).trans (Kept.set _ ga 1 _) (fun _ h => .inl h)
        have hKK : Kept (fun x => x = ga ∨ (Value.slice Aa t ca).ownBlock = some x) W6 _ := (Hk9.out.mono (fun x _ h => .inr h)).trans hK2 (fun x h => .inl (.inl h))
        have hown7 := Bk.own_kept Hown9.out hK2 (fun x hx e => Bk.own_not_cells Hown9.out Ht9.out (by decide) (e ▸ hx))
        have hto7 := (Ht9.out.s0 (.slice A9 (t + x1) c9)).s1 ee
        have HEnd := Lib.hid (show TEnd w _ ga gw Aw cw tt E y4 y5 T from by
          have e1 : tt = t + x1 := by rw [← Htt.out, HT2.out, List.length_append, Ht.out, Hq4.out]
          refine ⟨A9, c9, by rw [e1, HE2.out]; exact hto7, by rw [e1, HT2.out, C4.pcs_append]; exact hown7, ToIs_kept HWI.out hKK (fun h => ?_), Bk.own_zero (Bk.own_kept HW.out hKK (fun x hx h => ?_)), HB.out.trans (hKK.below HB.out.size (fun x h => ?_))⟩
          · rcases h with h | h
            · have := Hgw.out.2.1; omega
            · have := Hgw.out.2.2.1 _ h; omega
          · rcases h with h | h
            · exact (HWg.out x hx).2.1 h
            · exact (HWg.out x hx).2.2 x h rfl
          · rcases h with h | h
            · rw [h]; exact Hlow.out ga (.inr (.inl rfl))
            · exact Hlow.out x (.inr (.inr (.inr h))))
        generalize (w9.setCell ⟨ga, 0, none⟩ (.slice A9 (t + x1) c9)).setCell ⟨ga, 1, none⟩ (.int .i64 ee) = W8 at *
        clear hK2 hKK hown7 hto7 q1 q2 q3 q4 Ht9 Hown9 Hk9 Hn9 HA HnX HrX HWI HW Hto HB Hlow Hap HX HT2 HE2
        obtain ⟨A8, c8, t1, t2, t3, t4, t5⟩ := HEnd.out
        have d0 := t1.c0; have d1 := t3.c0
        have T1 := Lib.hid t1; have T2 := Lib.hid t2; have T3 := Lib.hid t3; have T4 := Lib.hid t4; have T5 := Lib.hid t5
        clear t1 t2 t3 t4 t5 HEnd
        go_wp2_with fail
        refine (C4.sameP_calls A8 Aw tt c8 tt cw _ _ T T W8 Htt.out.symm Htt.out.symm (Bk.own_caps T2.out).1 (Bk.own_caps T4.out).1 (Bk.own_caps T2.out).2 (Bk.own_caps T4.out).2 (Bk.own_rd T2.out) (Bk.own_rd T4.out)).mono ?_
        rintro e W9 ⟨rfl, k9, rfl⟩
        rw [decide_eq_true rfl]
        have hb := Bk.drewN_below W8 k9
        have T1 := Lib.hid ((hb.block ga T1.out.lt).trans T1.out)
        have T3 := Lib.hid ((hb.block gw T3.out.lt).trans T3.out)
        have T5 := Lib.hid (T5.out.trans (hb.mono T5.out.size))
        clear hb T2 T4 d0 d1
        generalize W8.drewN k9 = W9 at *
        go_wp2_with fail
        refine (ends_calls A n cap w.heap.size b W9 Hn.out hn4 hc Hcm.out Hnil.out T5.out.size (Hr.out.below T5.out (Nat.le_refl _))).mono ?_
        rintro e W10 ⟨rfl, hb⟩
        have t1 : ToIs W10 ga (.slice A8 tt c8) E 0 0 := (hb.block ga (lt_heap T1.out)).trans T1.out
        have t3 : ToIs W10 gw (.slice Aw tt cw) E y4 y5 := (hb.block gw (lt_heap T3.out)).trans T3.out
        have T5 := Lib.hid (T5.out.trans (hb.mono T5.out.size))
        have d0 := t1.c1; have d1 := t3.c1
        clear hb t1 t3 T1 T3
        go_wp2_with fail
        refine (C4.first_calls W10).mono ?_
        rintro e W11 ⟨rfl, hb⟩
        have HZ := Lib.hid (T5.out.trans (hb.mono T5.out.size))
        clear hb
        go_wp2_with fail
        go_ret
        exact ⟨rfl, HZ.out⟩
      · have h0' : ((RunW (reps b 2)).e == 0) = false := by simpa using h0
        go_upto_region 34 with fail
        obtain ⟨tf1, tf2⟩ := told_fault h0
        have HEnd := Lib.hid (show TEnd w W5 ga gw Aw cw tt E y4 y5 T from by
          have e1 : tt = t := by rw [← Htt.out, HTo.out, ← Ht.out]; exact congrArg List.length tf1
          refine ⟨Aa, ca, by rw [e1, show E = _ from HE.out.trans tf2]; exact HF.out.tl, by have := HF.out.al; rw [e1, show T = _ from HTo.out.trans tf1]; rw [Ht.out] at this; exact this, HWI.out, Bk.own_zero HW.out, HF.out.bel⟩)
        generalize W5 = W8 at *
        clear tf1 tf2 h0 h0' c1' HF HWI HW HE HTo
        obtain ⟨A8, c8, t1, t2, t3, t4, t5⟩ := HEnd.out
        have d0 := t1.c0; have d1 := t3.c0
        have T1 := Lib.hid t1; have T2 := Lib.hid t2; have T3 := Lib.hid t3; have T4 := Lib.hid t4; have T5 := Lib.hid t5
        clear t1 t2 t3 t4 t5 HEnd
        go_wp2_with fail
        refine (C4.sameP_calls A8 Aw tt c8 tt cw _ _ T T W8 Htt.out.symm Htt.out.symm (Bk.own_caps T2.out).1 (Bk.own_caps T4.out).1 (Bk.own_caps T2.out).2 (Bk.own_caps T4.out).2 (Bk.own_rd T2.out) (Bk.own_rd T4.out)).mono ?_
        rintro e W9 ⟨rfl, k9, rfl⟩
        rw [decide_eq_true rfl]
        have hb := Bk.drewN_below W8 k9
        have T1 := Lib.hid ((hb.block ga T1.out.lt).trans T1.out)
        have T3 := Lib.hid ((hb.block gw T3.out.lt).trans T3.out)
        have T5 := Lib.hid (T5.out.trans (hb.mono T5.out.size))
        clear hb T2 T4 d0 d1
        generalize W8.drewN k9 = W9 at *
        go_wp2_with fail
        refine (ends_calls A n cap w.heap.size b W9 Hn.out hn4 hc Hcm.out Hnil.out T5.out.size (Hr.out.below T5.out (Nat.le_refl _))).mono ?_
        rintro e W10 ⟨rfl, hb⟩
        have t1 : ToIs W10 ga (.slice A8 tt c8) E 0 0 := (hb.block ga (lt_heap T1.out)).trans T1.out
        have t3 : ToIs W10 gw (.slice Aw tt cw) E y4 y5 := (hb.block gw (lt_heap T3.out)).trans T3.out
        have T5 := Lib.hid (T5.out.trans (hb.mono T5.out.size))
        have d0 := t1.c1; have d1 := t3.c1
        clear hb t1 t3 T1 T3
        go_wp2_with fail
        refine (C4.first_calls W10).mono ?_
        rintro e W11 ⟨rfl, hb⟩
        have HZ := Lib.hid (T5.out.trans (hb.mono T5.out.size))
        clear hb
        go_wp2_with fail
        go_ret
        exact ⟨rfl, HZ.out⟩
end Go.Proofs.YtmeoafodcniliaaGreatDoor
