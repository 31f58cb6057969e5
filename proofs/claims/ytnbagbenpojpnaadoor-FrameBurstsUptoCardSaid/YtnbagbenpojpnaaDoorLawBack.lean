/- FrameBack: the law and the walk -/
import Derived.Test.YtnbagbenpojpnaaDoorLawTwo
namespace Go.Proofs.YtnbagbenpojpnaaDoor
open Go.RowKit
set_option linter.unusedSimpArgs false
set_option linter.unusedVariables false
attribute [local go_sem ↓] loadF storeF
attribute [local go_sem] isLoadOf loadArg isRowAt_ptr rowAt_ptr blkOf_ptr aggOf_agg isAggV_agg isRow_alloc_new pair_cells
theorem isKb_of {k : Int} (h : isK k = true) : Fr.isKb (BitVec.ofInt 8 k) = true := by
  have : k = 1 ∨ k = 2 ∨ k = 3 := by simp [isK] at h; omega
  rcases this with rfl | rfl | rfl <;> rfl
theorem isK_of {b : BitVec 8} (h : Fr.isKb b = true) : isK (n8 b : Int) = true := by
  rw [← h]; unfold Fr.isKb isK n8
  rw [Bool.eq_iff_iff]; simp; omega
namespace Fr
theorem nOf_take (b : List (BitVec 8)) (i : Nat) (h : 4 ≤ i) : nOf (b.take i) = nOf b := by
  unfold nOf
  rw [List.getD_eq_getElem?_getD, List.getD_eq_getElem?_getD, List.getD_eq_getElem?_getD, List.getD_eq_getElem?_getD, List.getElem?_take_of_lt (by omega), List.getElem?_take_of_lt (by omega)]
theorem cut_short (k : BitVec 8) (p : List (BitVec 8)) (i : Nat) (hp : p.length ≤ 1024) (hi : i < p.length + 12) : good ((encode k p).take i) = false := by
  cases hg : good ((encode k p).take i) with
  | false => rfl
  | true =>
    exfalso
    have h1 := good_len hg
    rw [List.length_take, encode_length] at h1
    have e := nOf_take (encode k p) i (by omega)
    have e2 := enc_nOf k p [] (by omega)
    rw [List.append_nil] at e2
    omega
theorem good_enc {b : List (BitVec 8)} (h : good b = true) : isKb (kOf b) = true ∧ b.take (nOf b + 12) = encode (kOf b) (pOf b) := by
  unfold good at h; simp only [Bool.and_eq_true, decide_eq_true_eq] at h
  exact ⟨h.1.1.1.2, by rw [Nat.add_comm]; exact h.2⟩
end Fr
theorem dec_of_enc (k : Int) (p r : List (BitVec 8)) (hk : isK k = true) (hp : p.length ≤ 1024) :
    decK (Fr.encode (BitVec.ofInt 8 k) p ++ r) = k ∧ decP (Fr.encode (BitVec.ofInt 8 k) p ++ r) = p ∧ decN (Fr.encode (BitVec.ofInt 8 k) p ++ r) = ((p.length + 12 : Nat) : Int) ∧ decE (Fr.encode (BitVec.ofInt 8 k) p ++ r) = 0 := by
  have hg := Fr.enc_good (BitVec.ofInt 8 k) p r (isKb_of hk) hp
  unfold decK decP decN decE
  rw [if_pos hg, if_pos hg, if_pos hg, if_pos hg, Fr.enc_pOf _ _ _ (by omega), Fr.enc_nOf _ _ _ (by omega), Fr.enc_kOf, ← kb_of hk]
  exact ⟨rfl, rfl, rfl, rfl⟩
theorem dec_of_bad {b : List (BitVec 8)} (h : Fr.good b = false) : decK b = 0 ∧ decP b = [] ∧ decN b = 0 ∧ decE b = 32 := by
  unfold decK decP decN decE
  rw [if_neg (by rw [h]; simp), if_neg (by rw [h]; simp), if_neg (by rw [h]; simp), if_neg (by rw [h]; simp)]
  exact ⟨rfl, rfl, rfl, rfl⟩
theorem dec_of_good {b : List (BitVec 8)} (h : Fr.good b = true) : decK b = (n8 (Fr.kOf b) : Int) ∧ decP b = Fr.pOf b ∧ decN b = ((Fr.nOf b + 12 : Nat) : Int) ∧ decE b = 0 := by
  unfold decK decP decN decE
  rw [if_pos h, if_pos h, if_pos h, if_pos h]
  exact ⟨rfl, rfl, rfl, rfl⟩
theorem enc_of_good {b : List (BitVec 8)} (h : Fr.good b = true) : encL (n8 (Fr.kOf b) : Int) (Fr.pOf b) = b.take (Fr.nOf b + 12) ∧ encE (n8 (Fr.kOf b) : Int) (Fr.pOf b) = 0 := by
  obtain ⟨h1, h2⟩ := Fr.good_enc h
  have hk := isK_of h1
  have hp : (Fr.pOf b).length ≤ 1024 := by rw [Fr.pOf_length (by have := Fr.good_len h; omega)]; exact Fr.good_nOf h
  unfold encL encE
  rw [if_pos ⟨hk, hp⟩, if_pos hk, if_pos hp, h2, ofInt_n8]
  exact ⟨rfl, rfl⟩
set_option maxHeartbeats 4000000 in
set_option maxRecDepth 20000 in
theorem law_back (k : Int) (A : Option Addr) (n cap : Nat) (bs : List (BitVec 8)) (At : Option Addr) (nt ct : Nat) (ts : List (BitVec 8)) (Ab : Option Addr) (nb cb : Nat) (us : List (BitVec 8)) (w : World)
    (ha : In8 w A n cap bs) (hat : In8 w At nt ct ts) (hab : In8 w Ab nb cb us) (ht : TabIn w) :
    Calls Tryd.prog 7 #[VF k A n cap, .slice At nt ct, .slice Ab nb cb] w fun e w' => e = .returned (.bool true) ∧ Below w.heap.size w w' := by
  obtain ⟨i0, hi, hz0, hz1, hz2⟩ := info_parts infoU8
  have Hi := Lib.hid hi; clear hi
  obtain ⟨hn, hc, hcm, hnil, hr⟩ := ha
  obtain ⟨hnt, hct, hctm, hnilt, hrt⟩ := hat
  obtain ⟨hnb, hcb, hcbm, hnilb, hrb⟩ := hab
  have Hn := Lib.hid hn; have Hnil := Lib.hid hnil; have Hr := Lib.hid hr; have Ht := Lib.hid ht
  have Hnt := Lib.hid hnt; have Hnilt := Lib.hid hnilt; have Hrt := Lib.hid hrt
  have Hnb := Lib.hid hnb; have Hnilb := Lib.hid hnilb; have Hrb := Lib.hid hrb
  clear hn hnil hr ht hnt hnilt hrt hnb hnilb hrb hc hcm hct hctm hcbm
  go_enter Tryd.func7, Tryd.ntmps7
  go_wp2_with fail
  have hb0 := heap_alloc_new w (Obj.cells #[Value.int IntKind.i64 k, Value.slice A n cap] 24)
  have hal : Below w.heap.size w (w.alloc (Obj.cells #[Value.int IntKind.i64 k, Value.slice A n cap] 24)) := (Below.refl _ _).alloc (Nat.le_refl _) _
  generalize w.alloc (Obj.cells #[Value.int IntKind.i64 k, Value.slice A n cap] 24) = W at *
  have hsW := lt_heap hb0
  refine (first_calls W (tabIn_of Ht.out hal)).mono ?_
  rintro e w1 ⟨rfl, hf1⟩
  have hs1 := hf1.size
  have hbox := (hf1.block _ hsW).trans hb0
  have Hb1 := Lib.hid (hal.trans (hf1.mono (by omega)))
  have hrow1 : IsRow w1 w.heap.size 24 2 := ⟨_, hbox, rfl⟩
  have hro1 : rowOf w1 w.heap.size = #[.int .i64 k, .slice A n cap] := rowOf_eq hbox
  have Hbox := Lib.hid hbox
  clear hb0 hal hf1 hbox
  by_cases h1 : nt ≤ 65536
  · have hi1 : ¬ (65536 : Int) < (nt : Int) := by omega
    by_cases h2 : nb ≤ 65536
    · have hi2 : ¬ (65536 : Int) < (nb : Int) := by omega
      go_wp2_with fail
      refine (encode_any k A n cap w.heap.size bs w1 Hn.out (Hr.out.below Hb1.out (Nat.le_refl _)) Hb1.out.size (tabIn_of Ht.out Hb1.out)).mono ?_
      rintro e w2 ⟨hb2, A2, cap2, rfl, hown2⟩
      have hs2 := hb2.size
      have hbx2 := (hb2.block _ (by omega)).trans Hbox.out
      have Hb2 := Lib.hid (Hb1.out.trans (hb2.mono Hb1.out.size))
      have Hbx2 := Lib.hid hbx2
      have Hown2 := Lib.hid hown2
      clear hown2 hb2 hrow1 hro1 Hbox hbx2 hi1 hi2
      have he := encE_small k bs
      have Hcs := Lib.hid (enc_cases k bs)
      obtain ⟨L, hL⟩ : ∃ L, L = encL k bs := ⟨_, rfl⟩
      obtain ⟨E, hE⟩ : ∃ E, E = encE k bs := ⟨_, rfl⟩
      rw [← hL] at Hcs Hown2 ⊢
      rw [← hE] at Hcs he ⊢
      obtain ⟨N, hN⟩ : ∃ N, N = L.length := ⟨_, rfl⟩
      rw [← hN] at Hown2 ⊢
      have HN := Lib.hid hN
      clear hL hE hN
      go_upto_if 41 with (go_at_call 16; refine (num_calls _ _ (by omega) (by omega)).mono ?_; rintro e w' ⟨rfl, rfl⟩)
      go_cut [] (fun w' => Below w.heap.size w w')
      case first =>
        rcases Hcs.out with ⟨k1, k2, k3, rfl⟩ | ⟨rfl, z⟩
        · subst k3
          have hle := Fr.encode_length (BitVec.ofInt 8 k) bs
          have hN : N = bs.length + 12 := HN.out.trans hle
          have hNb : 12 ≤ N ∧ N ≤ 1036 := by omega
          rw [← hN] at hle
          have Hdec := Lib.hid (dec_of_enc k bs ts k1 k2)
          have Hcut := Lib.hid (fun i (hi : i < N) => dec_of_bad (Fr.cut_short (BitVec.ofInt 8 k) bs i k2 (by omega)))
          rw [← hN] at Hdec
          obtain ⟨X, hX⟩ : ∃ X, X = Fr.encode (BitVec.ofInt 8 k) bs := ⟨_, rfl⟩
          rw [← hX] at Hown2 Hdec Hcut hle
          have Hle := Lib.hid hle
          clear hX hN hle Hcs k1 k2 he HN
          obtain ⟨g, rfl, hcap⟩ := own_some Hown2.out (by omega)
          have Hrx := Lib.hid (own_rd Hown2.out)
          go_wp2_with fail
          refine (bytes_calls (some ⟨g, 0, none⟩) N cap2 w2.heap.size X w2 Hle.out.symm (by omega) (by intro h; cases h) (Nat.le_refl _) Hrx.out).mono ?_
          rintro e w3 ⟨A3, cap3, rfl, hown3, hb3⟩
          have hs3 := hb3.size
          have Hb3 := Lib.hid (Hb2.out.trans (hb3.mono (by omega)))
          have Hown3 := Lib.hid hown3; have Hbb3 := Lib.hid hb3
          have Hrt3 := Lib.hid (Hrt.out.below Hb3.out (Nat.le_refl _))
          clear hb3 hown3
          go_wp2_with (at_builtin; refine wpList_append_rd rfl _ _ 22 rfl w2.heap.size 5 i0 _ 1 descU8s Hi.out hz0 hz1 hz2 rfl _ N (X.map V8) rfl Hown3.out _ At nt ct (ts.map V8) rfl (by rw [List.length_map]; exact Hnt.out) Hnilt.out Hrt3.out (v8_one _) (by unfold maxLen; omega) (by omega) hs3 ?_)
          intro v4 w4 hown4 hg4
          rw [← List.map_append] at hown4
          obtain ⟨A4, cap4, rfl, hc4, hm4, _⟩ := own_form hown4
          have hs4 := hg4.size
          have hb4 := Hbb3.out.trans (grown_below Hown3.out hg4 hs3)
          have Hb4 := Lib.hid (Hb2.out.trans (hb4.mono (by omega)))
          have Hbb4 := Lib.hid hb4
          have Hown4 := Lib.hid hown4
          clear hb4 hown4 hg4 Hown3 Hbb3 Hrt3
          go_wp2_with fail
          refine (decode_calls A4 (N + nt) cap4 w4.heap.size (X ++ ts) w4 (by rw [List.length_append, Hle.out, ← Hnt.out]) (by unfold maxLen; omega) (own_rd Hown4.out) (Nat.le_refl _) hc4 (tabIn_of Ht.out Hb4.out)).mono ?_
          intro e w5 hans
          obtain ⟨hb5, A5, cap5, rfl, hown5⟩ := dec_uni hans
          clear hans
          obtain ⟨f1, f2, f3, f4⟩ := Hdec.out
          rw [f2] at hown5 ⊢
          rw [f1, f3, f4]
          have hs5 := hb5.size
          have Hbb5 := Lib.hid (Hbb4.out.trans (hb5.mono (show w2.heap.size ≤ w4.heap.size by omega)))
          have Hown5 := Lib.hid hown5
          clear hown5 hb5 Hbb4 Hown4 f1 f2 f3 f4 Hdec
          rw [← Hn.out] at Hown5 ⊢
          have hpc : Cells1 #[.int .i64 k, .slice A5 n cap5] 2 := pair_cells _ _ _ _
          obtain ⟨w6, hw6⟩ : ∃ w6, w6 = (w5.alloc (.cells #[.int .i64 0, .slice none 0 0] 24)).setRow w5.heap.size #[.int .i64 k, .slice A5 n cap5] := ⟨_, rfl⟩
          have hbw : Below w5.heap.size w5 w6 := by rw [hw6]; exact below_setRow ((Below.refl _ _).alloc (Nat.le_refl _) _) (Nat.le_refl _) _
          have hg5 : w6.heap[w5.heap.size]? = some (.cells #[.int .i64 k, .slice A5 n cap5] 24 (0, 0)) := by rw [hw6]; exact setRow_heap _ _ _ _ _ _ (heap_alloc_new _ _)
          have hx5 := (hbw.block w.heap.size (by omega)).trans ((Hbb5.out.block w.heap.size (by omega)).trans Hbx2.out)
          have hs6 := lt_heap hg5
          have hro5 : IsRow w6 w5.heap.size 24 2 := ⟨_, hg5, rfl⟩
          have hre5 := rowOf_eq hg5
          have hro0 : IsRow w6 w.heap.size 24 2 := ⟨_, hx5, rfl⟩
          have hre0 := rowOf_eq hx5
          have Hbb6 := Lib.hid (Hbb5.out.trans (hbw.mono (show w2.heap.size ≤ w5.heap.size by omega)))
          have Hown6 := Lib.hid (own_below Hown5.out hbw (Nat.le_refl _))
          have Hb6 := Lib.hid (Hb2.out.trans (Hbb6.out.mono (show w.heap.size ≤ w2.heap.size by omega)))
          have Hw6 := Lib.hid hw6
          rw [hw6] at hro5 hre5 hro0 hre0
          clear hbw hg5 hx5 Hbb5 Hown5 hw6
          go_wp2_with fail
          rw [← Hw6.out] at hro5 hre5 hro0 hre0 ⊢
          refine (sameF_calls k k A5 A n cap5 n cap w6.heap.size w.heap.size bs bs w6 Hn.out Hn.out (fun h => (own_nil Hown6.out h).1) (fun h => (Hnil.out h).1) (own_rd Hown6.out) (Hr.out.below Hb6.out (Nat.le_refl _)) (Nat.le_refl _) Hb6.out.size).mono ?_
          rintro e w7 ⟨rfl, hb7⟩
          have hs7 := hb7.size
          have Hbb7 := Lib.hid (Hbb6.out.trans (hb7.mono (show w2.heap.size ≤ w6.heap.size by omega)))
          clear hb7 Hbb6 Hown6 hro5 hre5 hro0 hre0 Hb6
          have hkk : (decide (bs = bs) && (k == k)) = true := by simp
          rw [hkk]
          go_wp2_with (go_at_call 16; refine (num_calls 0 _ (by omega) (by omega)).mono ?_; rintro e w' ⟨rfl, rfl⟩)
          go_loopw [14] (fun i' wr => ∃ a : Nat, i' = .int .i64 (a : Int) ∧ a ≤ 2000 ∧ Below w2.heap.size w2 wr) (fun i _ => N - (intOf i).toNat)
          case atStart => exact ⟨0, rfl, by omega, Hbb7.out⟩
          case round =>
            obtain ⟨a, rfl, ha, hbl⟩ := hrel
            have hsl := hbl.size
            have Hbl := Lib.hid hbl
            have Hbl0 := Lib.hid (Hb2.out.trans (hbl.mono (show w.heap.size ≤ w2.heap.size by omega)))
            clear hbl
            by_cases hlt : a < N
            · have q1 : (a : Int) < (N : Int) := by omega
              have q2 : (a : Int) ≤ (cap2 : Int) := by omega
              have Hc := Lib.hid (Hcut.out a hlt)
              go_wp2_with fail
              refine (decode_calls (some ⟨g, 0, none⟩) a cap2 w2.heap.size (X.take a) _ (by rw [List.length_take, Hle.out]; omega) (by unfold maxLen; omega) (rd_take8 (Hrx.out.below Hbl.out (Nat.le_refl _)) a) hsl (by omega) (tabIn_of Ht.out Hbl0.out)).mono ?_
              intro e w8 hans
              obtain ⟨hb8, A8, cap8, rfl, hown8⟩ := dec_uni hans
              obtain ⟨f1, f2, f3, f4⟩ := Hc.out
              rw [f1, f2, f3, f4]
              have hs8 := hb8.size
              have Hb8 := Lib.hid (Hbl.out.trans (hb8.mono hsl))
              clear hans hown8 hb8 f1 f2 f3 f4
              go_wp2_with (go_at_call 16; refine (num_calls 32 _ (by omega) (by omega)).mono ?_; rintro e w' ⟨rfl, rfl⟩)
              refine ⟨⟨a + 1 + a / 8, ?_, by omega, ?_⟩, ?_⟩
              · congr 1
              · exact Hb8.out.trans (below_setRow ((Below.refl _ _).alloc Hb8.out.size _) Hb8.out.size _)
              · simp [intOf]; omega
            · go_wp2_with fail
              go_meet
              exact Hbl0.out
        · have zn : (E != 0) = true := by rw [bne, z]; rfl
          clear Hcs
          go_wp2_with fail
          go_meet
          exact Hb2.out
      case rest =>
        clear Hown2 Hbx2 Hcs
        have Hc := Lib.hid hcut
        have Hrb2 := Lib.hid (Hrb.out.below hcut (Nat.le_refl _))
        have hsc := hcut.size
        clear hcut
        go_wp2_with fail
        refine (decode_calls Ab nb cb w.heap.size us wc Hnb.out (by unfold maxLen; omega) Hrb2.out hsc hcb (tabIn_of Ht.out Hc.out)).mono ?_
        intro e w3 hans
        obtain ⟨hb3, A3, cap3, rfl, hown3⟩ := dec_uni hans
        have hs3 := hb3.size
        have Hb3 := Lib.hid (Hc.out.trans (hb3.mono hsc))
        have Hown3 := Lib.hid hown3
        clear hans hb3 hown3
        cases hg : Fr.good us with
        | false =>
          obtain ⟨f1, f2, f3, f4⟩ := dec_of_bad hg
          rw [f1, f2, f3, f4]
          rw [f2] at Hown3
          clear f1 f2 f3 f4 hg
          go_wp2_with (go_at_call 16; refine (num_calls 32 _ (by omega) (by omega)).mono ?_; rintro e w' ⟨rfl, rfl⟩)
          go_ret
          exact ⟨rfl, Hb3.out.trans (below_setRow ((Below.refl _ _).alloc Hb3.out.size _) Hb3.out.size _)⟩
        | true =>
          obtain ⟨f1, f2, f3, f4⟩ := dec_of_good hg
          have Henc := Lib.hid (enc_of_good hg)
          have hgl := Fr.good_len hg
          have hgn := Fr.good_nOf hg
          have hpn : (Fr.pOf us).length = Fr.nOf us := Fr.pOf_length (by omega)
          rw [f1, f2, f3, f4]
          rw [f2] at Hown3
          rw [hpn] at Hown3 ⊢
          have Hpn := Lib.hid hpn
          clear f1 f2 f3 f4 hg hpn
          rw [← Hnb.out] at hgl
          obtain ⟨m, hm⟩ : ∃ m, m = Fr.nOf us := ⟨_, rfl⟩
          obtain ⟨P, hP⟩ : ∃ P, P = Fr.pOf us := ⟨_, rfl⟩
          obtain ⟨kb, hkb⟩ : ∃ kb, kb = Fr.kOf us := ⟨_, rfl⟩
          rw [← hm, ← hP] at Hown3 Hpn
          rw [← hm, ← hP, ← hkb] at Henc
          rw [← hm] at hgl hgn ⊢
          rw [← hkb]
          clear hm hP hkb
          obtain ⟨M, hM⟩ : ∃ M, M = m + 12 := ⟨_, rfl⟩
          rw [← hM] at Henc hgl ⊢
          have q1 : ¬ (M : Int) < 12 := by omega
          have q2 : ¬ (nb : Int) < (M : Int) := by omega
          have q3 : (M : Int) ≤ (cb : Int) := by omega
          have HM := Lib.hid (show M = (us.take M).length by rw [List.length_take, ← Hnb.out]; omega)
          obtain ⟨blk, off, rfl, hblk, hx⟩ := Hrb.out.at_ (k := 0) (by rw [List.length_map, ← Hnb.out]; omega)
          clear hx hM
          have hpc : Cells1 #[.int .i64 (n8 kb : Int), .slice A3 m cap3] 2 := pair_cells _ _ _ _
          obtain ⟨w6, hw6⟩ : ∃ w6, w6 = (w3.alloc (.cells #[.int .i64 0, .slice none 0 0] 24)).setRow w3.heap.size #[.int .i64 (n8 kb : Int), .slice A3 m cap3] := ⟨_, rfl⟩
          have hbw : Below w3.heap.size w3 w6 := by rw [hw6]; exact below_setRow ((Below.refl _ _).alloc (Nat.le_refl _) _) (Nat.le_refl _) _
          have hg5 : w6.heap[w3.heap.size]? = some (.cells #[.int .i64 (n8 kb : Int), .slice A3 m cap3] 24 (0, 0)) := by rw [hw6]; exact setRow_heap _ _ _ _ _ _ (heap_alloc_new _ _)
          have hs6 := lt_heap hg5
          have hro5 : IsRow w6 w3.heap.size 24 2 := ⟨_, hg5, rfl⟩
          have hre5 := rowOf_eq hg5
          have Hown6 := Lib.hid (own_below Hown3.out hbw (Nat.le_refl _))
          have Hb6 := Lib.hid (Hb3.out.trans (hbw.mono (show w.heap.size ≤ w3.heap.size by omega)))
          have Hw6 := Lib.hid hw6
          rw [hw6] at hro5 hre5
          clear hbw hg5 Hown3 hw6
          go_wp2_with (go_at_call 16; refine (num_calls 0 _ (by omega) (by omega)).mono ?_; rintro e w' ⟨rfl, rfl⟩)
          rw [← Hw6.out] at hro5 hre5 ⊢
          refine (encode_any (n8 kb : Int) A3 m cap3 w6.heap.size P w6 Hpn.out.symm (own_rd Hown6.out) (Nat.le_refl _) (tabIn_of Ht.out Hb6.out)).mono ?_
          rintro e w7 ⟨hb7, A7, cap7, rfl, hown7⟩
          rw [Henc.out.1] at hown7 ⊢
          rw [Henc.out.2, ← HM.out]
          rw [← HM.out] at hown7
          have hs7 := hb7.size
          have Hown7 := Lib.hid hown7
          have Hb7 := Lib.hid (Hb6.out.trans (hb7.mono Hb6.out.size))
          clear hb7 hown7 hro5 hre5 hpc Hw6
          go_wp2_with fail
          refine (same_calls A7 (some ⟨blk, off, none⟩) M cap7 M cb _ w.heap.size (us.take M) (us.take M) w7 HM.out HM.out (fun h => (own_nil Hown7.out h).1) (by intro h; cases h) (own_rd Hown7.out) (rd_take8 (Hrb.out.below Hb7.out (Nat.le_refl _)) M)).mono ?_
          rintro e w' ⟨rfl, rfl⟩
          rw [decide_eq_true rfl]
          go_wp2_with (go_at_call 16; refine (num_calls 0 _ (by omega) (by omega)).mono ?_; rintro e w' ⟨rfl, rfl⟩)
          go_ret
          exact ⟨rfl, Hb7.out⟩
    · have hi2 : (65536 : Int) < (nb : Int) := by omega
      go_wp2_with fail
      go_ret
      exact ⟨rfl, Hb1.out⟩
  · have hi1 : (65536 : Int) < (nt : Int) := by omega
    go_wp2_with fail
    go_ret
    exact ⟨rfl, Hb1.out⟩
end Go.Proofs.YtnbagbenpojpnaaDoor
