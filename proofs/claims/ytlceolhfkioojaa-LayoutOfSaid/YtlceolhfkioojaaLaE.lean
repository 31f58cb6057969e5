/- pithref10.Range, Shard, Of -/
import Derived.Test.YtlceolhfkioojaaLaD
namespace Go.Proofs.Ytlceolhfkioojaa
open Go.RowKit
set_option linter.unusedSimpArgs false
set_option linter.unusedVariables false
set_option maxHeartbeats 2000000 in
theorem rRange_calls (A : Option Addr) (n cap B : Nat) (zs : List Int) (i : Int) (w : World) (hn : n = zs.length) (hc : n ≤ cap) (hcm : cap ≤ maxLen) (hr : Rd w B A (zs.map VI)) (hi : i ≤ 9223372036854775807) :
    Calls Try.prog 29 #[.slice A n cap, .int .i64 i] w fun e w' => e = .returned (.tuple #[.int .i64 (La.rng zs i).1, .int .i64 (La.rng zs i).2]) ∧ ∃ k, w' = w.drewN k := by
  have Hn := Lib.hid hn; have Hr := Lib.hid hr
  clear hn hr
  unfold maxLen at hcm
  by_cases hneg : i < 0
  · have He := Lib.hid (La.rng_out zs i (Or.inl hneg))
    go_enter Try.func29, Try.ntmps29
    go_wp2_with fail
    go_ret2
    rw [He.out]
    exact ⟨rfl, 0, rfl⟩
  · by_cases hbig : (n : Int) ≤ i
    · have He := Lib.hid (La.rng_out zs i (Or.inr (by rw [← Hn.out]; exact hbig)))
      go_enter Try.func29, Try.ntmps29
      go_wp2_with fail
      go_ret2
      rw [He.out]
      exact ⟨rfl, 0, rfl⟩
    · obtain ⟨k, rfl⟩ : ∃ k : Nat, i = (k : Int) := ⟨i.toNat, by omega⟩
      have He := Lib.hid (La.rng_in zs k (by rw [← Hn.out]; omega))
      have hkn : (k : Int) < (n : Int) := by omega
      obtain ⟨b, off, rfl, _, hc⟩ := rd_get Hr.out (getD_some (zs := zs) (i := k) (by rw [← Hn.out]; omega))
      by_cases hk0 : k = 0
      · subst hk0
        clear hneg hbig
        have hn0 : (0 : Int) < (n : Int) := by omega
        have hcap : (0 : Int) < (cap : Int) := by omega
        have hc : w.cell? ⟨b, off, none⟩ = some (.int .i64 (zs.getD 0 0)) := by simpa using hc
        generalize zs.getD 0 0 = z at *
        go_enter Try.func29, Try.ntmps29
        go_wp2_with fail
        go_quiet (fail)
        go_wp2_with fail
        go_ret2
        rw [He.out, La.lo_zero]
        exact ⟨rfl, nq, rfl⟩
      · obtain ⟨j, hj⟩ : ∃ j, j = k - 1 := ⟨_, rfl⟩
        obtain ⟨b2, off2, e, _, hc2⟩ := rd_get Hr.out (getD_some (zs := zs) (i := j) (by rw [← Hn.out]; omega))
        injection e with e; injection e with e1 e2; subst e1; subst e2
        have x0 : ((k : Int) == 0) = false := by rw [beq_eq_false_iff_ne]; omega
        have x1 : (k : Int) - 1 = (j : Int) := by omega
        have x2 : wrap64 ((k : Int) - 1) = (j : Int) := by rw [IntWalk.wrap64_in _ (by omega)]; omega
        have x3 : (j : Int) < (n : Int) := by omega
        have x4 : ¬ (n : Int) ≤ (k : Int) := by omega
        have hlo : La.lo zs k = zs.getD j 0 := by rw [show k = j + 1 by omega]; exact La.lo_succ zs j
        rw [hlo] at He
        generalize zs.getD j 0 = z at *
        generalize zs.getD k 0 = z2 at *
        clear hj hlo
        go_enter Try.func29, Try.ntmps29
        go_wp2_with fail
        go_quiet (fail)
        go_wp2_with fail
        go_ret2
        rw [He.out]
        exact ⟨rfl, nq, rfl⟩
set_option maxHeartbeats 2000000 in
theorem rShard_calls (A : Option Addr) (n cap B : Nat) (zs : List Int) (v : Int) (w : World) (hn : n = zs.length) (hc : n ≤ cap) (hcm : cap ≤ maxLen) (hr : Rd w B A (zs.map VI)) (hg : La.rises 0 zs = true) :
    Calls Try.prog 30 #[.slice A n cap, .int .i64 v] w fun e w' => e = .returned (.int .i64 (La.shardP zs v)) ∧ ∃ k, w' = w.drewN k := by
  have Hn := Lib.hid hn; have Hr := Lib.hid hr; have Hg := Lib.hid hg
  have hm63 : n ≤ 9223372036854775807 := by unfold maxLen at hcm; omega
  clear hn hr hg
  go_enter Try.func30, Try.ntmps30
  go_wp2_with fail
  go_loopw [5] (fun i wr => ∃ a : Nat, i = .int .i64 (a : Int) ∧ a ≤ n ∧ (∀ j, j < a → La.shardP zs v ≠ (j : Int)) ∧ ∃ k, wr = w.drewN k) (fun i _ => n - (intOf i).toNat)
  case atStart => exact ⟨0, rfl, by omega, fun j h => by omega, 0, rfl⟩
  case round =>
    obtain ⟨a, rfl, ha, hne, q, rfl⟩ := hrel
    have Hne := Lib.hid hne
    clear hne
    by_cases hlt : a < n
    · have l1 : (a : Int) < (n : Int) := by omega
      have Hiff := Lib.hid (La.shard_iff zs v a Hg.out (by rw [← Hn.out]; exact hlt))
      go_wp2_with fail
      refine (rRange_calls A n cap B zs (a : Int) (w.drewN q) Hn.out hc hcm Hr.out (by omega)).mono ?_
      rintro e w2 ⟨rfl, k, rfl⟩
      rw [La.rng_in zs a (by rw [← Hn.out]; exact hlt)]
      generalize La.lo zs a = lo at *
      generalize zs.getD a 0 = hi at *
      by_cases h1 : lo ≤ v
      · by_cases h2 : v < hi
        · have He := Lib.hid (Hiff.out.2 ⟨h1, h2⟩)
          go_wp2_with fail
          go_ret
          exact ⟨by rw [He.out]; rfl, q + k, rfl⟩
        · have He := Lib.hid (show La.shardP zs v ≠ (a : Int) from fun h => h2 (Hiff.out.1 h).2)
          go_wp2_with fail
          exact ⟨⟨a + 1, by congr 1, by omega, fun j hj => by
            rcases (by omega : j < a ∨ j = a) with h | rfl
            · exact Hne.out j h
            · exact He.out, q + k, rfl⟩, by simp [intOf]; omega⟩
      · have He := Lib.hid (show La.shardP zs v ≠ (a : Int) from fun h => h1 (Hiff.out.1 h).1)
        go_wp2_with fail
        exact ⟨⟨a + 1, by congr 1, by omega, fun j hj => by
          rcases (by omega : j < a ∨ j = a) with h | rfl
          · exact Hne.out j h
          · exact He.out, q + k, rfl⟩, by simp [intOf]; omega⟩
    · have He := Lib.hid (show La.shardP zs v = -1 by
        rcases La.shard_lt zs v Hg.out with h | ⟨i, h1, h2⟩
        · exact h
        · exact absurd h2 (Hne.out i (by rw [← Hn.out] at h1; omega)))
      go_wp2_with fail
      go_ret
      exact ⟨by rw [He.out]; rfl, q, rfl⟩
theorem any_snoc (zs vs : List Int) (a b : Nat) (v : Int) (h : vs[b]? = some v) : ((vs.take (b + 1)).any fun v => decide (La.shardP zs v = (a : Int))) = (((vs.take b).any fun v => decide (La.shardP zs v = (a : Int))) || decide (La.shardP zs v = (a : Int))) := by
  rw [List.take_add_one, h, List.any_append]; simp
set_option maxHeartbeats 4000000 in
theorem rOf_calls (A : Option Addr) (n cap B : Nat) (zs : List Int) (A' : Option Addr) (k cap' B' : Nat) (vs : List Int) (w : World) (hn : n = zs.length) (hc : n ≤ cap) (hcm : cap ≤ maxLen) (hn1 : n ≤ 1000) (hr : Rd w B A (zs.map VI)) (hB : B ≤ w.heap.size) (hg : La.rises 0 zs = true) (hk : k = vs.length) (hkm : k ≤ 1099511627776) (hr' : Rd w B' A' (vs.map VI)) (hB' : B' ≤ w.heap.size) :
    Calls Try.prog 31 #[.slice A n cap, .slice A' k cap'] w fun e w' => ∃ A2 m cap2, e = .returned (.slice A2 m cap2) ∧ m = (La.ofL zs vs).length ∧ w'.ownsRow w.heap.size 3 1 (.slice A2 m cap2) m ((La.ofL zs vs).map VI) ∧ Below w.heap.size w w' := by
  obtain ⟨i0, hi, hz0, hz1, hz2⟩ := info_parts infoInt
  have Hi := Lib.hid hi; have Hn := Lib.hid hn; have Hr := Lib.hid hr; have Hg := Lib.hid hg; have Hk := Lib.hid hk; have Hr' := Lib.hid hr'
  clear hi hn hr hg hk hr'
  go_enter Try.func31, Try.ntmps31
  go_wp2_with fail
  go_loopw [5, 6] (fun l i wr => ∃ (a m : Nat), i = .int .i64 (a : Int) ∧ a ≤ n ∧ m = (La.ofK zs vs a).length ∧ m ≤ a ∧ wr.ownsRow w.heap.size 3 1 l m ((La.ofK zs vs a).map VI) ∧ Below w.heap.size w wr) (fun _ i _ => n - (intOf i).toNat)
  case atStart => exact ⟨0, 0, rfl, by omega, rfl, by omega, ⟨rfl, Or.inl ⟨rfl, rfl⟩⟩, Below.refl _ _⟩
  case round =>
    obtain ⟨a, m, rfl, ha, hm, hma, hown, hbl⟩ := hrel
    obtain ⟨A1, cap1, rfl, hc1, hm1, _⟩ := own_form hown
    have hsz := hbl.size
    have Hm := Lib.hid hm; have Hown := Lib.hid hown; have Hbl := Lib.hid hbl
    clear hm hown hbl
    by_cases hlt : a < n
    · have l1 : (a : Int) < (n : Int) := by omega
      have Hiff := Lib.hid (fun v => La.shard_iff zs v a Hg.out (by rw [← Hn.out]; exact hlt))
      go_wp2_with fail
      refine (rRange_calls A n cap B zs (a : Int) wr Hn.out hc hcm (Hr.out.below Hbl.out hB) (by omega)).mono ?_
      rintro e w2 ⟨rfl, x2, rfl⟩
      rw [La.rng_in zs a (by rw [← Hn.out]; exact hlt)]
      have Hown2 := Lib.hid (own_below Hown.out (below_drewN (Below.refl _ _) x2) (Nat.le_refl _)); have Hbl2 := Lib.hid (below_drewN Hbl.out x2)
      generalize wr.drewN x2 = w2 at *
      clear Hown Hbl
      generalize La.lo zs a = lo at *
      generalize zs.getD a 0 = hi at *
      have hs2 := Hbl2.out.size
      have Hrv := Lib.hid (Hr'.out.below Hbl2.out hB')
      go_upto_block 2 with fail
      go_cut [9] (fun s w' => s = .bool (vs.any fun v => decide (La.shardP zs v = (a : Int))) ∧ w2 = w')
      case first =>
        go_wp2_with fail
        go_loopw [9, 10] (fun s i wx => ∃ b : Nat, i = .int .i64 (b : Int) ∧ b ≤ k ∧ s = .bool ((vs.take b).any fun v => decide (La.shardP zs v = (a : Int))) ∧ w2 = wx) (fun _ i _ => k - (intOf i).toNat)
        case atStart => exact ⟨0, rfl, by omega, rfl, rfl⟩
        case round =>
          obtain ⟨b, rfl, hb, rfl, rfl⟩ := hrel
          by_cases hbk : b < k
          · have l2 : (b : Int) < (k : Int) := by omega
            obtain ⟨v, hv⟩ : ∃ v, vs[b]? = some v := ⟨vs[b]'(by rw [← Hk.out]; omega), List.getElem?_eq_getElem _⟩
            obtain ⟨bb, off, rfl, _, hcv⟩ := rd_get Hrv.out hv
            have hsn := any_snoc zs vs a b v hv
            have hif := Hiff.out v
            generalize ((vs.take b).any fun v => decide (La.shardP zs v = (a : Int))) = cur at *
            clear hv
            cases cur with
            | true =>
              have Hs := Lib.hid (show ((vs.take (b + 1)).any fun v => decide (La.shardP zs v = (a : Int))) = true by rw [hsn]; rfl)
              clear hsn hif
              go_wp2_with fail
              exact ⟨⟨b + 1, by congr 1, by omega, by rw [Hs.out], trivial⟩, by simp [intOf]; omega⟩
            | false =>
              by_cases h1 : lo ≤ v
              · by_cases h2 : v < hi
                · have Hs := Lib.hid (show ((vs.take (b + 1)).any fun v => decide (La.shardP zs v = (a : Int))) = true by rw [hsn, decide_eq_true (hif.2 ⟨h1, h2⟩)]; rfl)
                  clear hsn hif
                  go_wp2_with fail
                  exact ⟨⟨b + 1, by congr 1, by omega, by rw [Hs.out], trivial⟩, by simp [intOf]; omega⟩
                · have Hs := Lib.hid (show ((vs.take (b + 1)).any fun v => decide (La.shardP zs v = (a : Int))) = false by rw [hsn, decide_eq_false (fun h => h2 (hif.1 h).2)]; rfl)
                  clear hsn hif
                  go_wp2_with fail
                  exact ⟨⟨b + 1, by congr 1, by omega, by rw [Hs.out], trivial⟩, by simp [intOf]; omega⟩
              · have Hs := Lib.hid (show ((vs.take (b + 1)).any fun v => decide (La.shardP zs v = (a : Int))) = false by rw [hsn, decide_eq_false (fun h => h1 (hif.1 h).1)]; rfl)
                clear hsn hif
                go_wp2_with fail
                exact ⟨⟨b + 1, by congr 1, by omega, by rw [Hs.out], trivial⟩, by simp [intOf]; omega⟩
          · obtain rfl : b = k := by omega
            have hT : vs.take b = vs := List.take_of_length_le (by rw [← Hk.out]; exact Nat.le_refl _)
            rw [hT]
            clear hT
            generalize (vs.any fun v => decide (La.shardP zs v = (a : Int))) = cur at *
            go_wp2_with fail
            go_meet
            exact ⟨rfl, rfl⟩
      case rest =>
        obtain ⟨rfl, rfl⟩ := hcut
        have hof := La.ofK_succ zs vs a
        generalize (vs.any fun v => decide (La.shardP zs v = (a : Int))) = bb at *
        have Hof := Lib.hid hof
        clear hof
        cases bb with
        | false =>
          have Hof2 : Hid (La.ofK zs vs (a + 1) = La.ofK zs vs a) := Lib.hid (by rw [Hof.out]; simp)
          go_wp2_with fail
          exact ⟨⟨a + 1, m, by congr 1, by omega, by rw [Hof2.out]; exact Hm.out, by omega, by rw [Hof2.out]; exact Hown2.out, Hbl2.out⟩, by simp [intOf]; omega⟩
        | true =>
          have Hof2 : Hid (La.ofK zs vs (a + 1) = La.ofK zs vs a ++ [(a : Int)]) := Lib.hid (by rw [Hof.out]; simp)
          have HownA := Lib.hid (own_below Hown2.out ((Below.refl w2.heap.size w2).alloc (Nat.le_refl _) (.cells #[.int .i64 (a : Int)] 3)) (Nat.le_refl _))
          go_wp2_with (at_builtin; refine wpList_append_rd rfl _ _ 22 rfl w.heap.size 3 i0 _ 8 descInts Hi.out hz0 hz1 hz2 rfl _ m ((La.ofK zs vs a).map VI) rfl HownA.out _ (some ⟨w2.heap.size, 0, none⟩) 1 1 [.int .i64 (a : Int)] rfl rfl (by intro h; cases h) (rd_fresh _ _ _ _ _ _ rfl rfl) (by intro u hu; simp at hu; subst hu; rfl) (by unfold maxLen; omega) (by omega) (by simp; omega) ?_)
          intro v4 w4 hown4 hg4
          have e4 : (La.ofK zs vs a).map VI ++ [.int .i64 (a : Int)] = (La.ofK zs vs (a + 1)).map VI := by rw [Hof2.out, List.map_append]; rfl
          rw [e4] at hown4
          have hne : m + 1 = (La.ofK zs vs (a + 1)).length := by rw [Hof2.out, List.length_append, ← Hm.out]; rfl
          have Hown4 := Lib.hid hown4; have Hne := Lib.hid hne
          have hb4 : Below w.heap.size w w4 := (Hbl2.out.alloc hs2 _).grown hg4 (by simp; omega) fun k hk => (HownA.out.lt k hk).1
          have Hb4 := Lib.hid hb4
          clear hown4 hg4 hb4 e4 HownA hne
          go_wp2_with fail
          exact ⟨⟨a + 1, m + 1, by congr 1, by omega, Hne.out, by omega, Hown4.out, Hb4.out⟩, by simp [intOf]; omega⟩
    · obtain rfl : a = n := by omega
      go_wp2_with fail
      go_ret
      have e : La.ofL zs vs = La.ofK zs vs a := by rw [La.ofL_eq, ← Hn.out]
      rw [e]
      exact ⟨A1, m, cap1, rfl, Hm.out, Hown.out, Hbl.out⟩
end Go.Proofs.Ytlceolhfkioojaa
