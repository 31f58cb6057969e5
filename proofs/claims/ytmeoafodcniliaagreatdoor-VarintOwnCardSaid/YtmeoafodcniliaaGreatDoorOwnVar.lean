/- VarintOwn: the walk -/
import Derived.Test.YtmeoafodcniliaaGreatDoorC1
import Derived.Test.YtmeoafodcniliaaGreatDoorBkL
import Derived.Test.YtmeoafodcniliaaGreatDoorBk0
import Derived.Test.YtmeoafodcniliaaGreatDoorBk1
import Derived.Test.YtmeoafodcniliaaGreatDoorBkE
namespace Go.Proofs.YtmeoafodcniliaaGreatDoor
open Go.ChangeShapes Go.WideShapes Go.ChangeAt Go.RowKit
open Bk (Row Is Sep Kept)
set_option linter.unusedSimpArgs false
set_option linter.unusedVariables false
set_option maxRecDepth 20000
namespace Bk
def usedV : Nat → Bool := only [0, 1]
theorem usedV_ok : UsedOK usedV := by intro K hK; revert K; decide
theorem allV : All usedV := by
  intro K hK
  have h0 : KindOK K (fun l => usedV K = true ∨ l = []) ∨ True := .inr trivial
  match K, hK with
  | 0, _ => exact kind0.mono (fun _ _ => trivial)
  | 1, _ => exact kind1.mono (fun _ _ => trivial)
  | 2, _ => exact empty2.mono (fun l h => h.resolve_left (by decide))
  | 3, _ => exact empty3.mono (fun l h => h.resolve_left (by decide))
  | 4, _ => exact empty4.mono (fun l h => h.resolve_left (by decide))
  | 5, _ => exact empty5.mono (fun l h => h.resolve_left (by decide))
  | 6, _ => exact empty6.mono (fun l h => h.resolve_left (by decide))
  | 7, _ => exact empty7.mono (fun l h => h.resolve_left (by decide))
  | 8, _ => exact empty8.mono (fun l h => h.resolve_left (by decide))
  | 9, _ => exact empty9.mono (fun l h => h.resolve_left (by decide))
  | 10, _ => exact empty10.mono (fun l h => h.resolve_left (by decide))
  | 11, _ => exact empty11.mono (fun l h => h.resolve_left (by decide))
  | 12, _ => exact empty12.mono (fun l h => h.resolve_left (by decide))
  | 13, _ => exact empty13.mono (fun l h => h.resolve_left (by decide))
  | 14, _ => exact empty14.mono (fun l h => h.resolve_left (by decide))
  | 15, _ => exact empty15.mono (fun l h => h.resolve_left (by decide))
  | 16, _ => exact empty16.mono (fun l h => h.resolve_left (by decide))
  | K + 17, h => omega
end Bk
namespace Vi
theorem own_facts (F : Int) (zs : List Int) : ∃ P, (∀ b, putB b (numF F) (numsL (numF F) (zs.take 300)) = b ++ P) ∧ (1 ≤ P.length ∧ P.length ≤ 2709) ∧ (∀ r, rdL (numF F) 4611686018427387904 (P ++ r) = (numsL (numF F) (zs.take 300), P.length, 0)) ∧ (numsL (numF F) (zs.take 300)).length ≤ 300 ∧
    (∀ z ∈ numsL (numF F) (zs.take 300), -9223372036854775808 ≤ z ∧ z ≤ 9223372036854775807) ∧ 0 ≤ numF F ∧ numF F < 1048576 := by
  obtain ⟨h1, h2, h3, h4, h5⟩ := itL_ok (0, F, true, zs)
  have h6 := (itB_len (0, F, true, zs) (show (0 : Int) < 9223372036854775808 by decide))
  have e1 : itL (0, F, true, zs) = numsL (numF F) (zs.take 300) := rfl
  have e2 : itB (0, F, true, zs) = putL (numF F) (numsL (numF F) (zs.take 300)) := rfl
  rw [e1] at h1 h2 h3
  rw [e2] at h6
  refine ⟨_, fun b => ?_, h6, fun r => ?_, h2, fun z hz => by have := h3 z hz; omega, h4, h5⟩
  · unfold putB putL; rw [if_pos h1, if_pos h1]
  · rw [rdL_put _ _ _ _ h1 (by omega) (fun x hx => by have := h3 x hx; omega), if_pos (fun x hx => (h3 x hx).2)]
end Vi
theorem rdr_kept {T : TypeId} {F : Nat → Prop} {w w' : World} {base g n cap at' : Nat} {A : Option Addr} {bs : List (BitVec 8)} {er : Int} (h : RdrIs T w base g A n cap bs at' er) (hk : Kept F w w') (hg : ¬ F g) (hA : ∀ x, (Value.slice A n cap).ownBlock = some x → ¬ F x) : RdrIs T w' base g A n cap bs at' er :=
  ⟨(hk.block g (lt_heap h.1) hg).trans h.1, Bk.own_kept h.2.1 hk hA, h.2.2⟩
theorem own_drop (P AL : List (BitVec 8)) (h : AL = (List.replicate 3 P).flatten) : ∀ q, q < 3 → AL.drop (q * P.length) = P ++ (List.replicate (2 - q) P).flatten := by
  intro q hq
  have e : AL = P ++ (P ++ P) := by rw [h]; simp [List.replicate]
  match q, hq with
  | 0, _ => rw [e]; simp [List.replicate]
  | 1, _ => rw [e, Nat.one_mul, List.drop_left']; simp [List.replicate]; rfl
  | 2, _ => rw [e, ← List.append_assoc, List.drop_left' (by simp; omega)]; simp [List.replicate]
theorem own_left (P AL : List (BitVec 8)) (h : AL = (List.replicate 3 P).flatten) : lft AL ((2 + 1) * P.length) 0 = 0 := by
  have e : AL.length = 3 * P.length := by rw [h]; simp; omega
  unfold lft
  rw [if_pos rfl, e]; simp
attribute [local go_sem ↓] load_it Bk.build_book Bk.box_book
set_option maxHeartbeats 8000000 in
theorem law_own (A' : Option Addr) (n' cap' : Nat) (bs : List (BitVec 8)) (x X F : Int) (M : Bool) (A : Option Addr) (n cap : Nat) (zs : List Int) (w : World) (ha' : In8 w A' n' cap' bs) (hx : (Lit.int .i64 x).wf = true) (ha : InI w A n cap zs) :
    Calls Tryz.prog 5 #[.slice A' n' cap', .int .i64 x, VT X F M A n cap] w fun e w' => e = .returned (.bool true) ∧ Below w.heap.size w w' := by
  obtain ⟨hn, hc, hcm, hnil, hr, _⟩ := ha
  obtain ⟨hn', hc', hcm', hnil', hr'⟩ := ha'
  have hxb := bounds_i64 hx
  have Hn := Lib.hid hn; have Hr := Lib.hid hr; have Hn' := Lib.hid hn'; have Hr' := Lib.hid hr'; have Hnil' := Lib.hid hnil'
  unfold maxLen at hcm hcm'
  clear hn hr hn' hr' hnil hnil' hx
  unfold VT
  go_enter Tryz.func5, Tryz.ntmps5
  go_wp2_with fail
  obtain ⟨w0, hw0⟩ : ∃ x, x = w.alloc (Obj.cells #[.int .i64 X, .int .i64 F, .bool M, .slice A n cap] 86) := ⟨_, rfl⟩
  rw [← hw0]
  have hs0 : w.heap.size < w0.heap.size := by rw [hw0]; simp
  have Hb0 := Lib.hid (show Below w.heap.size w w0 by rw [hw0]; exact (Below.refl _ _).alloc (Nat.le_refl _) _)
  have HL := Lib.hid (show (loadVar 86 ⟨w.heap.size, 0, none⟩).run Tryz.prog w0 = .ok (VT X F M A n cap) w0 from
    ld_item _ _ X F M A n cap w0 (by rw [hw0]; simp [go_sem]) (by rw [hw0]; simp [go_sem]) (by rw [hw0]; simp [go_sem]) (by rw [hw0]; simp [go_sem]))
  have Hc0 : Hid (∀ o, o < 4 → ∀ w', Below w0.heap.size w0 w' → (loadVar 86 ⟨w.heap.size, 0, none⟩).run Tryz.prog w' = .ok (VT X F M A n cap) w') := Lib.hid (fun o _ w' hb => by
    have hcell : ∀ o, w'.cell? ⟨w.heap.size, o, none⟩ = w0.cell? ⟨w.heap.size, o, none⟩ := fun o => hb.cell (p := ⟨w.heap.size, o, none⟩) hs0
    exact ld_item _ _ X F M A n cap w' (by rw [hcell, hw0]; simp [go_sem]) (by rw [hcell, hw0]; simp [go_sem]) (by rw [hcell, hw0]; simp [go_sem]) (by rw [hcell, hw0]; simp [go_sem]))
  clear hw0
  refine (first_calls w0).mono ?_
  rintro e w1 ⟨rfl, hb1⟩
  have HB1 := Lib.hid (Hb0.out.trans (hb1.mono (by omega)))
  have hs1 := hb1.size
  have Hb1 := Lib.hid hb1
  clear hb1 HL
  by_cases hbig : n' ≤ 2000
  · have hbi : ¬ (2000 : Int) < (n' : Int) := by omega
    obtain ⟨i0, hi, hz0, hz1, hz2⟩ := info_parts infoU8
    have Hi := Lib.hid hi; clear hi
    have Htk1 := Lib.hid trivial
    go_wp2_with (first
      | (have hXX := Htk1; clear hXX; go_at_call 10
         have hal : Below w1.heap.size w1 (w1.alloc (.cells Bk.book0 44)) := (Below.refl _ _).alloc (Nat.le_refl _) _
         refine (bytes_calls A' n' cap' w.heap.size bs _ Hn'.out (by omega) Hnil'.out (Nat.le_trans HB1.out.size hal.size) ((Hr'.out.below HB1.out (Nat.le_refl _)).below hal HB1.out.size)).mono ?_
         rintro e w3 ⟨A3, c3, rfl, hown3, hb3⟩
         have h13 := hal.trans (hb3.mono hal.size)
         have h03 := Hb1.out.trans (h13.mono Hb1.out.size)
         have hld3 := Hc0.out 0 (by decide) w3 h03
         have hcan : CanIt w3 (.pointer (some ⟨w.heap.size, 0, none⟩)) := ⟨_, _, rfl, hld3⟩
         have hval := itV_eq hld3
         have HI3 := Lib.hid ((Is.new Bk.usedV w1).below hb3)
         have HB3 := Lib.hid (HB1.out.trans (h13.mono HB1.out.size))
         have HL3 := Lib.hid (Row.fresh (U := fun g => g = w1.heap.size) hown3 (Is.new Bk.usedV w1).ult)
         have Hl3 := Lib.hid (fun x hx => Nat.le_trans (Nat.le_trans HB1.out.size hal.size) (Bk.own_blk (g := x) hown3 hx).1)
         have Htk2 := Lib.hid trivial
         clear Htk1 hal hown3 hb3 h13 h03 hld3)
      | (have hXX := Htk2; clear hXX; go_at_call 35
         refine (numbers_calls X F M A n cap w.heap.size zs w3 Hn.out HB3.out.size (Hr.out.below HB3.out (Nat.le_refl _))).mono ?_
         rintro e w4 ⟨A4, m, c4, rfl, hm, hown4, hb4⟩
         have Hm := Lib.hid hm
         have HI4 := Lib.hid (HI3.out.below hb4)
         have HB4 := Lib.hid (HB3.out.trans (hb4.mono HB3.out.size))
         have HL4 := Lib.hid (HL3.out.below hb4)
         have HN4 := Lib.hid (Row.fresh hown4 HI3.out.ult)
         have Htk3 := Lib.hid trivial
         clear Htk2 hm hown4 hb4 hcan hval HI3 HL3)
      | (have hXX := Htk3; clear hXX; go_at_call 36
         refine (ints_calls A4 m c4 w4.heap.size _ w4 Hm.out (by have := Hm.out; rw [Vi.numsL_length, List.length_take] at this; omega) (Nat.le_refl _) (Bk.own_rd HN4.out.1)).mono ?_
         rintro e w5 ⟨A5, c5, rfl, hown5, hb5⟩
         have HI5 := Lib.hid (HI4.out.below hb5)
         have HB5 := Lib.hid (HB4.out.trans (hb5.mono HB4.out.size))
         have HL5 := Lib.hid (HL4.out.below hb5)
         have HN5 := Lib.hid (HN4.out.below hb5)
         have HM5 := Lib.hid (Row.fresh hown5 HI4.out.ult)
         have Hl5 := Lib.hid (fun x hx => Nat.le_trans HB4.out.size (Bk.own_blk (g := x) hown5 hx).1)
         have HSmn := Lib.hid (Bk.sep_new HN4.out.1 hown5).symm
         have Htk4 := Lib.hid trivial
         clear Htk3 hown5 hb5 HI4 HL4 HN4)
      | fail)
    obtain ⟨P, hP1, hP2, hP3, hP4, hP5, hf0, hf1⟩ := Vi.own_facts F zs
    generalize Vi.numsL (Vi.numF F) (zs.take 300) = L at *
    generalize Vi.numF F = f at *
    have HP1 := Lib.hid hP1; have HP2 := Lib.hid hP2; have HP3 := Lib.hid hP3; have HP4 := Lib.hid hP4; have HP5 := Lib.hid hP5
    have Hmm : Hid (m ≤ 300) := Lib.hid (by rw [Hm.out]; exact hP4)
    clear hP1 hP2 hP3 hP4 hP5
    obtain ⟨kb, hkb⟩ : ∃ kb, kb = w1.heap.size := ⟨_, rfl⟩
    rw [← hkb] at HI5 HL5 HN5 HM5 ⊢
    have Hkb := Lib.hid (show w.heap.size ≤ kb by rw [hkb]; exact HB1.out.size)
    clear hkb
    go_loopw [13, 14] (fun av iv wr => ∃ (i : Nat) (AL : List (BitVec 8)) (U : Nat → Prop), iv = .int .i64 (i : Int) ∧ i ≤ 3 ∧ AL = (List.replicate i P).flatten ∧ Is Bk.usedV wr kb U (3 * i) ∧ Row U wr 5 1 av AL.length (AL.map V8) ∧
      Row U wr 5 1 (.slice A3 n' c3) n' (bs.map V8) ∧ Row U wr 3 1 (.slice A4 m c4) m (L.map VI) ∧ Row U wr 3 1 (.slice A5 m c5) m (L.map VI) ∧ Sep (.slice A3 n' c3) av ∧ (∀ g, U g → w.heap.size ≤ g) ∧ Below w.heap.size w wr ∧ (∀ g, av.ownBlock = some g → w.heap.size ≤ g)) (fun _ iv _ => 3 - (intOf iv).toNat)
    case atStart => exact ⟨0, [], _, rfl, by omega, rfl, HI5.out, ⟨World.ownsRow_nil _ _ _ _, (by intro g hg; cases hg)⟩, HL5.out, HN5.out, HM5.out, (Bk.sep_nil _ _ _).symm, (fun g hg => by rw [show g = kb from hg]; exact Hkb.out), HB5.out, (by intro g hg; cases hg)⟩
    case round =>
      obtain ⟨i, AL, U, rfl, hi, hAL, hI, hA, hlent, hl, hmine, hsep, hlow, hbw, hav⟩ := hrel
      obtain ⟨A7, c7, rfl, _, _⟩ := Bk.own_hdr hA.1
      have HAL := Lib.hid hAL; have HI := Lib.hid hI; have HA := Lib.hid hA; have HLe := Lib.hid hlent; have HN := Lib.hid hl; have HM := Lib.hid hmine; have HS := Lib.hid hsep; have HU := Lib.hid hlow; have HB := Lib.hid hbw; have HV := Lib.hid hav
      have Hal7 : Hid (AL.length ≤ 8127) := Lib.hid (by
        rw [hAL, List.length_flatten, List.map_replicate, List.sum_replicate_nat]
        have := HP2.out.2
        have : i * P.length ≤ 3 * 2709 := Nat.mul_le_mul hi this
        omega)
      generalize wr = W0 at *
      clear hAL hI hA hlent hl hmine hsep hlow hbw hav HI5 HL5 HN5 HM5 HB5
      by_cases hlt : i < 3
      · have q1 : (i : Int) < 3 := by omega
        have Ht1 := Lib.hid trivial
        have Hfx : Hid ((Vi.form x.toNat).length ≤ 9) := Lib.hid (by rw [Vi.form_length]; exact Vi.len_nine (by omega))
        have HSe := HS
        have Hc4 := Lib.hid (Bk.own_caps HN.out.1); have Hc5 := Lib.hid (Bk.own_caps HM.out.1)
        go_wp2_with fail
        refine (Put_calls A3 n' c3 W0.heap.size bs x W0 hxb.2 Hn'.out (by omega) (Nat.le_refl _) (Bk.own_rd HLe.out.1)).mono ?_
        rintro e a1 ⟨Apa, npa, cpa, rfl, hn, hown, hb⟩
        have Lpa := Lib.hid hn
        have Rpa := Lib.hid (Row.fresh hown HI.out.ult)
        have Hlopa := Lib.hid (fun g hg => Nat.le_trans HB.out.size (Bk.own_blk (g := g) hown hg).1)
        have S71 := Lib.hid (Bk.sep_new HA.out.1 hown)
        have Se1 := Lib.hid (Bk.sep_new HLe.out.1 hown)
        have HI := Lib.hid (HI.out.below hb)
        have HA := Lib.hid (HA.out.below hb)
        have HLe := Lib.hid (HLe.out.below hb)
        have HN := Lib.hid (HN.out.below hb)
        have HM := Lib.hid (HM.out.below hb)
        have HB := Lib.hid (HB.out.trans (hb.mono HB.out.size))
        clear hn hown hb
        go_wp2_with fail
        refine (putList_calls A3 n' c3 a1.heap.size bs f A5 m c5 a1.heap.size L a1 Hn'.out (by omega) Hm.out (by have := Hmm.out; omega) Hc5.out.1 Hc5.out.2 (Nat.le_refl _) (Nat.le_refl _) (Bk.own_rd HLe.out.1) (Bk.own_rd HM.out.1) HP5.out (by omega)).mono ?_
        rintro e a2 ⟨Apb, npb, cpb, rfl, hn, hown, hb⟩
        rw [HP1.out] at hn hown
        have Lpb := Lib.hid hn
        have Rpb := Lib.hid (Row.fresh hown HI.out.ult)
        have Hlopb := Lib.hid (fun g hg => Nat.le_trans HB.out.size (Bk.own_blk (g := g) hown hg).1)
        have S72 := Lib.hid (Bk.sep_new HA.out.1 hown)
        have Se2 := Lib.hid (Bk.sep_new HLe.out.1 hown)
        have S12 := Lib.hid (Bk.sep_new Rpa.out.1 hown)
        have HI := Lib.hid (HI.out.below hb)
        have HA := Lib.hid (HA.out.below hb)
        have HLe := Lib.hid (HLe.out.below hb)
        have HN := Lib.hid (HN.out.below hb)
        have HM := Lib.hid (HM.out.below hb)
        have Rpa := Lib.hid (Rpa.out.below hb)
        have HB := Lib.hid (HB.out.trans (hb.mono HB.out.size))
        clear hn hown hb
        go_wp2_with fail
        refine (Put_calls A3 n' c3 a2.heap.size bs x a2 hxb.2 Hn'.out (by omega) (Nat.le_refl _) (Bk.own_rd HLe.out.1)).mono ?_
        rintro e a3 ⟨Apc, npc, cpc, rfl, hn, hown, hb⟩
        have Lpc := Lib.hid hn
        have Rpc := Lib.hid (Row.fresh hown HI.out.ult)
        have Hlopc := Lib.hid (fun g hg => Nat.le_trans HB.out.size (Bk.own_blk (g := g) hown hg).1)
        have S73 := Lib.hid (Bk.sep_new HA.out.1 hown)
        have Se3 := Lib.hid (Bk.sep_new HLe.out.1 hown)
        have S13 := Lib.hid (Bk.sep_new Rpa.out.1 hown)
        have S23 := Lib.hid (Bk.sep_new Rpb.out.1 hown)
        have HI := Lib.hid (HI.out.below hb)
        have HA := Lib.hid (HA.out.below hb)
        have HLe := Lib.hid (HLe.out.below hb)
        have HN := Lib.hid (HN.out.below hb)
        have HM := Lib.hid (HM.out.below hb)
        have Rpa := Lib.hid (Rpa.out.below hb)
        have Rpb := Lib.hid (Rpb.out.below hb)
        have HB := Lib.hid (HB.out.trans (hb.mono HB.out.size))
        clear hn hown hb
        go_wp2_with fail
        refine (Bk.keepIs0 (by decide) 0 Apa npa cpa (bs ++ Vi.form x.toNat) a3 HI.out (by omega) Lpa.out.symm (by have h1 := Lpa.out; have h2 := HP2.out; have h3 := Hfx.out; have h4 := Hn'.out; rw [List.length_append] at h1; omega) Rpa.out.1 Rpa.out.2).mono ?_
        rintro e a4 ⟨rfl, hI, hK⟩
        have hlw := Bk.more_low (w' := a4) HU.out Hlopa.out HB.out.size
        have HB := Lib.hid (Bk.kept_low HB.out hK HU.out HB.out.size)
        have HU := Lib.hid hlw
        have Rpb := Lib.hid (Rpb.out.keep hK S12.out.symm)
        have Rpc := Lib.hid (Rpc.out.keep hK S13.out.symm)
        have HA := Lib.hid (HA.out.keep hK S71.out)
        have HLe := Lib.hid (HLe.out.keep hK Se1.out)
        have HN := Lib.hid (HN.out.keep hK (Bk.sep_type HN.out.1 Rpa.out.1 (by decide)))
        have HM := Lib.hid (HM.out.keep hK (Bk.sep_type HM.out.1 Rpa.out.1 (by decide)))
        have HI := Lib.hid hI
        clear hI hK hlw
        go_wp2_with fail
        refine (Bk.keepIs0 (by decide) 0 Apb npb cpb (bs ++ P) a4 HI.out (by omega) Lpb.out.symm (by have h1 := Lpb.out; have h2 := HP2.out; have h3 := Hfx.out; have h4 := Hn'.out; rw [List.length_append] at h1; omega) Rpb.out.1 Rpb.out.2).mono ?_
        rintro e a5 ⟨rfl, hI, hK⟩
        have hlw := Bk.more_low (w' := a5) HU.out Hlopb.out HB.out.size
        have HB := Lib.hid (Bk.kept_low HB.out hK HU.out HB.out.size)
        have HU := Lib.hid hlw
        have Rpc := Lib.hid (Rpc.out.keep hK S23.out.symm)
        have HA := Lib.hid (HA.out.keep hK S72.out)
        have HLe := Lib.hid (HLe.out.keep hK Se2.out)
        have HN := Lib.hid (HN.out.keep hK (Bk.sep_type HN.out.1 Rpb.out.1 (by decide)))
        have HM := Lib.hid (HM.out.keep hK (Bk.sep_type HM.out.1 Rpb.out.1 (by decide)))
        have HI := Lib.hid hI
        clear hI hK hlw
        go_wp2_with fail
        refine (Bk.keepIs0 (by decide) 0 Apc npc cpc (bs ++ Vi.form x.toNat) a5 HI.out (by omega) Lpc.out.symm (by have h1 := Lpc.out; have h2 := HP2.out; have h3 := Hfx.out; have h4 := Hn'.out; rw [List.length_append] at h1; omega) Rpc.out.1 Rpc.out.2).mono ?_
        rintro e a6 ⟨rfl, hI, hK⟩
        have hlw := Bk.more_low (w' := a6) HU.out Hlopc.out HB.out.size
        have HB := Lib.hid (Bk.kept_low HB.out hK HU.out HB.out.size)
        have HU := Lib.hid hlw
        have HA := Lib.hid (HA.out.keep hK S73.out)
        have HLe := Lib.hid (HLe.out.keep hK Se3.out)
        have HN := Lib.hid (HN.out.keep hK (Bk.sep_type HN.out.1 Rpc.out.1 (by decide)))
        have HM := Lib.hid (HM.out.keep hK (Bk.sep_type HM.out.1 Rpc.out.1 (by decide)))
        have HI := Lib.hid hI
        clear hI hK hlw
        go_wp2_with fail
        refine (putList_calls none 0 0 0 [] f A4 m c4 a6.heap.size L a6 rfl (by omega) Hm.out (by have := Hmm.out; omega) Hc4.out.1 Hc4.out.2 (Nat.zero_le _) (Nat.le_refl _) (Rd.nil _ _ _) (Bk.own_rd HN.out.1) HP5.out (by omega)).mono ?_
        rintro e a7 ⟨A8, n8', c8, rfl, hn, hown, hb⟩
        rw [HP1.out, List.nil_append] at hn hown
        have L8 := Lib.hid hn
        have R8 := Lib.hid (Row.fresh hown HI.out.ult)
        have HI := Lib.hid (HI.out.below hb)
        have HA := Lib.hid (HA.out.below hb)
        have HLe := Lib.hid (HLe.out.below hb)
        have HN := Lib.hid (HN.out.below hb)
        have HM := Lib.hid (HM.out.below hb)
        have HB := Lib.hid (HB.out.trans (hb.mono HB.out.size))
        clear hn hown hb
        go_wp2_with (at_builtin; refine Bk.wpList_append_two rfl _ _ 22 rfl 5 i0 _ 1 1 descU8s Hi.out hz0 hz1 hz2 rfl (by decide) (.slice A7 AL.length c7) AL.length (AL.map V8) rfl HA.out.1 A8 n8' c8 _ (P.map V8) rfl (by have h1 := L8.out; have h2 := HP2.out; omega) (by rw [List.length_map, L8.out, Nat.mul_one]) (Bk.own_rd R8.out.1) (v8_one P) (by have h1 := L8.out; have h2 := HP2.out; have h3 := Hal7.out; unfold maxLen; omega) (by have h1 := L8.out; have h2 := HP2.out; have h3 := Hal7.out; omega) ?_; intro v9 a8 hown9 _ hK9 hblk9; obtain ⟨A9, c9, rfl, _, _⟩ := Bk.own_hdr hown9; have HI9 := Lib.hid (HI.out.kept hK9 (fun g hg he => HA.out.2 g he hg)); have HLe9 := Lib.hid (HLe.out.kept hK9 (fun g hg he => HSe.out g hg he)); have HN9 := Lib.hid (HN.out.kept hK9 (fun g hg he => Bk.own_apart HN.out.1 HA.out.1 (by decide) hg he)); have HM9 := Lib.hid (HM.out.kept hK9 (fun g hg he => Bk.own_apart HM.out.1 HA.out.1 (by decide) hg he)); have HB9 := Lib.hid (HB.out.trans (hK9.below HB.out.size (fun g hg => HV.out g hg))); have HV9 := Lib.hid (fun g hg => (hblk9 g hg).elim (fun h1 => HV.out g h1) (fun h1 => Nat.le_trans HB.out.size h1)); have HS9 := Lib.hid (fun g h1 h2 => (hblk9 g h2).elim (fun h3 => HSe.out g h1 h3) (fun h3 => by have := (Bk.own_blk HLe.out.1 h1).2; omega) : Sep (.slice A3 n' c3) (.slice A9 (AL.length + n8') c9)); have HA9 := Lib.hid (show Row _ a8 5 1 (.slice A9 (AL.length + n8') c9) (AL.length + n8') (AL.map V8 ++ P.map V8) from ⟨hown9, fun g hg hx => (hblk9 g hg).elim (fun h1 => HA.out.2 g h1 hx) (fun h1 => by have := HI.out.ult g hx; omega)⟩); clear hown9 hK9 hblk9)
        exact ⟨⟨i + 1, AL ++ P, _, by congr 1, by omega, by rw [HAL.out, List.replicate_succ', List.flatten_append]; simp, by have := HI9.out; rw [show 3 * (i + 1) = 3 * i + 1 + 1 + 1 by omega]; exact this, by have := HA9.out; rw [List.length_append, List.map_append, ← L8.out]; exact this, HLe9.out, HN9.out, HM9.out, HS9.out, HU.out, HB9.out, HV9.out⟩, by simp [intOf]; omega⟩
      · have HI0 := HI; have HA0 := HA; have HLe0 := HLe; have HSe := HS
        obtain rfl : i = 3 := by omega
        have Hc7 := Lib.hid (Bk.own_caps HA.out.1)
        go_wp2_with fail
        refine (newReader_calls A7 AL.length c7 W0.heap.size AL W0 rfl (by have := Hal7.out; omega) (Nat.le_refl _) (Bk.own_rd HA.out.1)).mono ?_
        rintro e b1 ⟨g, Ar, cr, rfl, hrd, hb⟩
        have Hg0 := Lib.hid (show W0.heap.size ≤ g from hrd.2.2.2.2)
        have HR := Lib.hid hrd
        have HI := Lib.hid (HI.out.below hb)
        have HA := Lib.hid (HA.out.below hb)
        have HLe := Lib.hid (HLe.out.below hb)
        have HN := Lib.hid (HN.out.below hb)
        have HM := Lib.hid (HM.out.below hb)
        have Hug : Hid (¬ U g) := Lib.hid (fun h => by have h1 := HI0.out.ult g h; have h2 := Hg0.out; omega)
        have Hur : Hid (∀ x, (Value.slice Ar AL.length cr).ownBlock = some x → ¬ U x) := Lib.hid (fun x hx h => by have h1 := HI0.out.ult x h; have h2 := (Bk.own_blk hrd.2.1 hx).1; omega)
        have HSr := Lib.hid (Bk.sep_new HA0.out.1 hrd.2.1)
        have HSl := Lib.hid (Bk.sep_new HLe0.out.1 hrd.2.1)
        have Hgl := Lib.hid (Nat.le_trans HB.out.size Hg0.out)
        have HB := Lib.hid (HB.out.trans (hb.mono HB.out.size))
        clear hrd hb HI0 HA0 HLe0
        have HD := Lib.hid (own_drop P AL HAL.out)
        go_wp2_with fail
        go_loopw [22] (fun iv wr => ∃ (q : Nat) (V : Nat → Prop), iv = .int .i64 (q : Int) ∧ q ≤ 2 ∧ Is Bk.usedV wr kb V (9 + q) ∧ RdrIs 156 wr W0.heap.size g Ar AL.length cr AL (q * P.length) 0 ∧ ¬ V g ∧ (∀ x, (Value.slice Ar AL.length cr).ownBlock = some x → ¬ V x) ∧ Row V wr 5 1 (.slice A7 AL.length c7) AL.length (AL.map V8) ∧ Row V wr 5 1 (.slice A3 n' c3) n' (bs.map V8) ∧ Row V wr 3 1 (.slice A4 m c4) m (L.map VI) ∧ Row V wr 3 1 (.slice A5 m c5) m (L.map VI) ∧ (∀ x, V x → w.heap.size ≤ x) ∧ Below w.heap.size w wr ∧ Sep (.slice A5 m c5) (.slice A4 m c4)) (fun iv _ => 2 - (intOf iv).toNat)
        case atStart => exact ⟨0, U, rfl, by omega, HI.out, by rw [Nat.zero_mul]; exact HR.out, Hug.out, Hur.out, HA.out, HLe.out, HN.out, HM.out, HU.out, HB.out, HSmn.out⟩
        case round =>
          obtain ⟨q, V, rfl, hq, hI, hR, hVg, hVr, hA, hLe, hN, hM, hU, hB, _⟩ := hrel
          clear HI HR HA HLe HN HM HU HB Hug Hur
          have HI := Lib.hid hI; have HR := Lib.hid hR; have HA := Lib.hid hA; have HLe := Lib.hid hLe; have HN := Lib.hid hN; have HM := Lib.hid hM; have HU := Lib.hid hU; have HB := Lib.hid hB; have Hug := Lib.hid hVg; have Hur := Lib.hid hVr
          clear hI hR hVg hVr hA hLe hN hM hU hB
          generalize wr = W1 at *
          by_cases hlq : q < 2
          · have q1 : (q : Int) < 2 := by omega
            go_wp2_with fail
            refine (List_calls g Ar AL.length cr (q * P.length) W0.heap.size AL 0 f 4611686018427387904 W1 HR.out (by have := Hal7.out; omega) (by omega) (by decide) (by decide)).mono ?_
            rintro e b2 ⟨hup, Ax, nx, cx, rfl, hn, hown, hrd⟩
            obtain ⟨e1, e2, e3⟩ := i16s AL (q * P.length) f 4611686018427387904
            rw [e1, HD.out q (by omega), HP3.out] at hn hown
            rw [e2, e3, HD.out q (by omega), HP3.out] at hrd
            dsimp only at hn hown hrd
            rw [← Nat.succ_mul] at hrd
            clear e1 e2 e3
            have hkg := Bk.Kept.grown hup
            have HI2 := Lib.hid (HI.out.kept hkg (fun x hx he => Hug.out (by injection he with he; rw [he]; exact hx)))
            have Lx := Lib.hid hn; have Rx := Lib.hid (Row.fresh hown HI.out.ult); have Hlx := Lib.hid (fun x hx => Nat.le_trans HB.out.size (Bk.own_blk (g := x) hown hx).1); have SNx := Lib.hid (Bk.sep_new HN.out.1 hown); have SMx := Lib.hid (Bk.sep_new HM.out.1 hown)
            have HA := Lib.hid (HA.out.kept hkg (fun x hx he => Bk.own_not_cells HA.out.1 HR.out.1 (by decide) (hx.trans he.symm)))
            have HLe := Lib.hid (HLe.out.kept hkg (fun x hx he => Bk.own_not_cells HLe.out.1 HR.out.1 (by decide) (hx.trans he.symm)))
            have HN := Lib.hid (HN.out.kept hkg (fun x hx he => Bk.own_not_cells HN.out.1 HR.out.1 (by decide) (hx.trans he.symm)))
            have HM := Lib.hid (HM.out.kept hkg (fun x hx he => Bk.own_not_cells HM.out.1 HR.out.1 (by decide) (hx.trans he.symm)))
            have HB := Lib.hid (HB.out.trans (hkg.below HB.out.size (fun x hx => by injection hx with hx; rw [← hx]; exact Hgl.out)))
            have HR := Lib.hid hrd
            clear hup hn hown hrd hkg
            go_wp2_with fail
            refine (Bk.keepIs1 (by decide) 0 Ax nx cx L b2 HI2.out (by omega) Lx.out.symm (by have h1 := Lx.out; have h2 := HP4.out; omega) Rx.out.1 Rx.out.2).mono ?_
            rintro e b3 ⟨rfl, hI, hK⟩
            have hlw := Bk.more_low (w' := b3) HU.out Hlx.out HB.out.size
            have HR3 := Lib.hid (rdr_kept HR.out hK Hug.out Hur.out)
            have hgs : g < b2.heap.size := lt_heap HR.out.1
            have Hug3 := Lib.hid (fun (h : Bk.more V b2 b3 (.slice Ax nx cx) g) => h.elim (fun h => Hug.out h) (fun h => h.elim (fun h => Bk.own_not_cells Rx.out.1 HR.out.1 (by decide) h) (fun h => by omega)))
            have Hur3 : Hid (∀ x, (Value.slice Ar AL.length cr).ownBlock = some x → ¬ Bk.more V b2 b3 (.slice Ax nx cx) x) := Lib.hid (fun x hx h => h.elim (fun h => Hur.out x hx h) (fun h => h.elim (fun h => Bk.own_apart HR.out.2.1 Rx.out.1 (by decide) hx h) (fun h => by have := (Bk.own_blk HR.out.2.1 hx).2; omega)))
            have HB3 := Lib.hid (Bk.kept_low HB.out hK HU.out HB.out.size)
            have HA := Lib.hid (HA.out.keep hK (Bk.sep_type HA.out.1 Rx.out.1 (by decide)))
            have HLe := Lib.hid (HLe.out.keep hK (Bk.sep_type HLe.out.1 Rx.out.1 (by decide)))
            have HN := Lib.hid (HN.out.keep hK SNx.out)
            have HM := Lib.hid (HM.out.keep hK SMx.out)
            have HI3 := Lib.hid hI; have HU3 := Lib.hid hlw
            clear hI hK hlw hgs
            go_wp2_with fail
            exact ⟨⟨q + 1, _, by congr 1, by omega, HI3.out, HR3.out, Hug3.out, Hur3.out, HA.out, HLe.out, HN.out, HM.out, HU3.out, HB3.out, HSmn.out⟩, by simp [intOf]; omega⟩
          · obtain rfl : q = 2 := by omega
            go_wp2_with fail
            refine (Bk.keepIs0 (by decide) 0 A3 n' c3 bs W1 HI.out (by omega) Hn'.out.symm (by omega) HLe.out.1 HLe.out.2).mono ?_
            rintro e d1 ⟨rfl, hI, hK⟩
            have hlw := Bk.more_low (w' := d1) HU.out Hl3.out HB.out.size
            have hgs : g < W1.heap.size := lt_heap HR.out.1
            have Hug3 := Lib.hid (fun (h : Bk.more _ W1 d1 (.slice A3 n' c3) g) => h.elim (fun h => Hug.out h) (fun h => h.elim (fun h => Bk.own_not_cells HLe.out.1 HR.out.1 (by decide) h) (fun h => by omega)))
            have Hur3 : Hid (∀ x, (Value.slice Ar AL.length cr).ownBlock = some x → ¬ Bk.more _ W1 d1 (.slice A3 n' c3) x) := Lib.hid (fun x hx h => h.elim (fun h => Hur.out x hx h) (fun h => h.elim (fun h => HSl.out.symm x hx h) (fun h => by have := (Bk.own_blk HR.out.2.1 hx).2; omega)))
            have HR3 := Lib.hid (rdr_kept HR.out hK Hug.out Hur.out)
            have HB3 := Lib.hid (Bk.kept_low HB.out hK HU.out HB.out.size)
            have HA := Lib.hid (HA.out.keep hK HSe.out.symm)
            have HN := Lib.hid (HN.out.keep hK (Bk.sep_type HN.out.1 HLe.out.1 (by decide)))
            have HM := Lib.hid (HM.out.keep hK (Bk.sep_type HM.out.1 HLe.out.1 (by decide)))
            have HI := Lib.hid hI; have HU := Lib.hid hlw; have HR := HR3; have HB := HB3; have Hug := Hug3; have Hur := Hur3
            clear hI hK hlw hgs HR3 HB3 Hug3 Hur3
            go_wp2_with fail
            refine (Bk.keepIs1 (by decide) 0 A5 m c5 L d1 HI.out (by omega) Hm.out.symm (by have := Hmm.out; omega) HM.out.1 HM.out.2).mono ?_
            rintro e d2 ⟨rfl, hI, hK⟩
            have hlw := Bk.more_low (w' := d2) HU.out Hl5.out HB.out.size
            have hgs : g < d1.heap.size := lt_heap HR.out.1
            have Hug3 := Lib.hid (fun (h : Bk.more _ d1 d2 (.slice A5 m c5) g) => h.elim (fun h => Hug.out h) (fun h => h.elim (fun h => Bk.own_not_cells HM.out.1 HR.out.1 (by decide) h) (fun h => by omega)))
            have Hur3 : Hid (∀ x, (Value.slice Ar AL.length cr).ownBlock = some x → ¬ Bk.more _ d1 d2 (.slice A5 m c5) x) := Lib.hid (fun x hx h => h.elim (fun h => Hur.out x hx h) (fun h => h.elim (fun h => (Bk.sep_type HR.out.2.1 HM.out.1 (by decide)) x hx h) (fun h => by have := (Bk.own_blk HR.out.2.1 hx).2; omega)))
            have HR3 := Lib.hid (rdr_kept HR.out hK Hug.out Hur.out)
            have HB3 := Lib.hid (Bk.kept_low HB.out hK HU.out HB.out.size)
            have HA := Lib.hid (HA.out.keep hK (Bk.sep_type HA.out.1 HM.out.1 (by decide)))
            have HN := Lib.hid (HN.out.keep hK HSmn.out.symm)
            have HI := Lib.hid hI; have HU := Lib.hid hlw; have HR := HR3; have HB := HB3; have Hug := Hug3; have Hur := Hur3
            clear hI hK hlw hgs HR3 HB3 Hug3 Hur3
            go_wp2_with fail
            refine (Bk.keepIs0 (by decide) 0 A7 AL.length c7 AL d2 HI.out (by omega) rfl (by have := Hal7.out; omega) HA.out.1 HA.out.2).mono ?_
            rintro e d3 ⟨rfl, hI, hK⟩
            have hlw := Bk.more_low (w' := d3) HU.out HV.out HB.out.size
            have hgs : g < d2.heap.size := lt_heap HR.out.1
            have Hug3 := Lib.hid (fun (h : Bk.more _ d2 d3 (.slice A7 AL.length c7) g) => h.elim (fun h => Hug.out h) (fun h => h.elim (fun h => Bk.own_not_cells HA.out.1 HR.out.1 (by decide) h) (fun h => by omega)))
            have Hur3 : Hid (∀ x, (Value.slice Ar AL.length cr).ownBlock = some x → ¬ Bk.more _ d2 d3 (.slice A7 AL.length c7) x) := Lib.hid (fun x hx h => h.elim (fun h => Hur.out x hx h) (fun h => h.elim (fun h => HSr.out.symm x hx h) (fun h => by have := (Bk.own_blk HR.out.2.1 hx).2; omega)))
            have HR3 := Lib.hid (rdr_kept HR.out hK Hug.out Hur.out)
            have HB3 := Lib.hid (Bk.kept_low HB.out hK HU.out HB.out.size)
            have HN := Lib.hid (HN.out.keep hK (Bk.sep_type HN.out.1 HA.out.1 (by decide)))
            have HI := Lib.hid hI; have HU := Lib.hid hlw; have HR := HR3; have HB := HB3; have Hug := Hug3; have Hur := Hur3
            clear hI hK hlw hgs HR3 HB3 Hug3 Hur3
            go_wp2_with fail
            refine (Bk.finish_calls Bk.allV Bk.usedV_ok d3 HI.out (by omega)).mono ?_
            rintro e d4 ⟨rfl, hK⟩
            have HR := Lib.hid (rdr_kept HR.out hK Hug.out Hur.out)
            have HN := Lib.hid (HN.out.finish hK)
            have HB := Lib.hid (Bk.kept_low HB.out hK HU.out HB.out.size)
            clear hK
            go_wp2_with fail
            refine (List_calls g Ar AL.length cr (2 * P.length) W0.heap.size AL 0 f 4611686018427387904 d4 HR.out (by have := Hal7.out; omega) (by omega) (by decide) (by decide)).mono ?_
            rintro e d5 ⟨hup, Ax, nx, cx, rfl, hn, hown, hrd⟩
            obtain ⟨e1, e2, e3⟩ := i16s AL (2 * P.length) f 4611686018427387904
            rw [e1, HD.out 2 (by omega), HP3.out] at hn hown
            rw [e2, e3, HD.out 2 (by omega), HP3.out] at hrd
            dsimp only at hn hown hrd
            rw [← Nat.succ_mul] at hrd
            have hkg := Bk.Kept.grown hup
            have HN := Lib.hid (HN.out.kept hkg (fun x hx he => Bk.own_not_cells HN.out.1 HR.out.1 (by decide) (hx.trans he.symm)))
            have HB := Lib.hid (HB.out.trans (hkg.below HB.out.size (fun x hx => by injection hx with hx; rw [← hx]; exact Hgl.out)))
            have HR := Lib.hid hrd; have Lx := Lib.hid hn; have Ho := Lib.hid hown
            clear e1 e2 e3 hup hn hown hrd hkg
            go_wp2_with fail
            refine (sameI_calls Ax A4 nx cx m c4 d5.heap.size d5.heap.size L L d5 Lx.out Hm.out (Bk.own_caps Ho.out).1 (Bk.own_caps HN.out.1).1 (Bk.own_caps Ho.out).2 (Bk.own_caps HN.out.1).2 (Bk.own_rd Ho.out) (Bk.own_rd HN.out.1)).mono ?_
            rintro e d6 ⟨rfl, k6, rfl⟩
            rw [show decide (L = L) = true from decide_eq_true rfl]
            have HR := Lib.hid (HR.out.below (Bk.drewN_below d5 k6)); have HB := Lib.hid (HB.out.trans ((Bk.drewN_below d5 k6).mono HB.out.size))
            generalize d5.drewN k6 = d7 at *
            go_wp2_with fail
            refine (err_calls g Ar AL.length cr _ W0.heap.size AL 0 d7 HR.out).mono ?_
            rintro e d8 ⟨rfl, k8, rfl⟩
            have HR := Lib.hid (HR.out.below (Bk.drewN_below d7 k8)); have HB := Lib.hid (HB.out.trans ((Bk.drewN_below d7 k8).mono HB.out.size))
            generalize d7.drewN k8 = d9 at *
            go_wp2_with fail
            refine (num_calls 0 d9 (by decide) (by decide)).mono ?_
            rintro e d10 ⟨rfl, rfl⟩
            go_wp2_with fail
            refine (left_calls g Ar AL.length cr _ W0.heap.size AL 0 d9 HR.out (by have := Hal7.out; omega)).mono ?_
            rintro e d11 ⟨rfl, k11, rfl⟩
            rw [own_left P AL HAL.out]
            have HB := Lib.hid (HB.out.trans ((Bk.drewN_below d9 k11).mono HB.out.size))
            generalize d9.drewN k11 = d12 at *
            go_wp2_with fail
            refine (first_calls d12).mono ?_
            rintro e d13 ⟨rfl, hb⟩
            have HB := Lib.hid (HB.out.trans (hb.mono HB.out.size))
            clear hb
            go_wp2_with fail
            go_ret
            exact ⟨rfl, HB.out⟩
  · have hbi : (2000 : Int) < (n' : Int) := by omega
    go_wp2_with fail
    go_ret
    exact ⟨rfl, HB1.out⟩
end Go.Proofs.YtmeoafodcniliaaGreatDoor
