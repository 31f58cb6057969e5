/- pithref24.Index -/
import Derived.Test.YtjbidjidfkkikaaSpX
namespace Go.Proofs.Ytjbidjidfkkikaa
open Go.RowKit
set_option linter.unusedSimpArgs false
set_option linter.unusedVariables false
theorem Sp.dir_unit (l k : Nat) : Sp.dir l k = (1, 0) ∨ Sp.dir l k = (-1, 0) ∨ Sp.dir l k = (0, 1) ∨ Sp.dir l k = (0, -1) := by
  unfold Sp.dir Sp.tn; split <;> split <;> simp
theorem Sp.walk_on (l k j : Nat) (hk : k < 2) (hj : j ≤ l) : Sp.walk l (k * l + j) = ((Sp.walk l (k * l)).1 + (Sp.dir l k).1 * j, (Sp.walk l (k * l)).2 + (Sp.dir l k).2 * j) := by
  rcases Nat.eq_zero_or_pos j with h | h
  · subst h; simp
  · exact Sp.walk_step l k j hk hj h
/-- What the search on one leg tells. -/
theorem Sp.leg_tells (l k I : Nat) (u v K : Int) (hs : Sp.spot I = (u, v)) (hk : k < 2) (hl : 1 ≤ l) (hge : l * (l - 1) + k * l ≤ I) (hK : K = (u - (Sp.walk l (k * l)).1) * (Sp.dir l k).1 + (v - (Sp.walk l (k * l)).2) * (Sp.dir l k).2) :
    ((Sp.walk l (k * l)).1 + K * (Sp.dir l k).1 = u → (Sp.walk l (k * l)).2 + K * (Sp.dir l k).2 = v → 0 ≤ K → K ≤ l → (I : Int) = ((l * (l - 1) + k * l : Nat) : Int) + K) ∧
    (¬ ((Sp.walk l (k * l)).1 + K * (Sp.dir l k).1 = u ∧ (Sp.walk l (k * l)).2 + K * (Sp.dir l k).2 = v ∧ 0 ≤ K ∧ K ≤ l) → l * (l - 1) + (k + 1) * l < I) := by
  have hkl : k * l ≤ 1 * l := Nat.mul_le_mul_right _ (by omega)
  constructor
  · intro h1 h2 h3 h4
    obtain ⟨j, rfl⟩ : ∃ j : Nat, K = (j : Int) := ⟨K.toNat, by omega⟩
    have hw := Sp.walk_on l k j hk (by omega)
    rw [Int.mul_comm _ (j : Int), Int.mul_comm _ (j : Int), h1, h2, Sp.walk_spot' l (k * l + j) hl (by omega), ← hs] at hw
    have := Sp.spot_inj hw
    omega
  · intro hn
    have e : (k + 1) * l = k * l + l := by rw [Nat.succ_mul]
    rw [e]
    rcases Nat.lt_or_ge (l * (l - 1) + (k * l + l)) I with h | h
    · exact h
    · exfalso
      obtain ⟨j, hj⟩ : ∃ j, I = l * (l - 1) + k * l + j := ⟨I - (l * (l - 1) + k * l), by omega⟩
      have hw := Sp.walk_on l k j hk (by omega)
      rw [Sp.walk_spot' l (k * l + j) hl (by omega), ← Nat.add_assoc, ← hj, hs] at hw
      injection hw with hu hv
      apply hn
      rcases Sp.dir_unit l k with h | h | h | h <;> rw [h] at hK hu hv ⊢ <;> simp only at * <;> omega
theorem rabs_calls (n : Int) (h1 : -4611686018427387904 ≤ n) (h2 : n ≤ 4611686018427387904) (w : World) : Calls Try.prog 38 #[.int .i64 n] w fun e w' => e = .returned (.int .i64 (n.natAbs : Int)) ∧ w = w' := by
  go_enter Try.func38, Try.ntmps38
  rcases Int.lt_or_le n (-n) with h3 | h3
  · have Hm := Lib.hid (show (n.natAbs : Int) = -n by omega)
    go_wp2_with fail
    go_ret
    exact ⟨by rw [Hm.out]; rfl, rfl⟩
  · have Hm := Lib.hid (show (n.natAbs : Int) = n by omega)
    go_wp2_with fail
    go_ret
    exact ⟨by rw [Hm.out]; rfl, rfl⟩
theorem Sp.spot_any (u v : Int) : ∃ I, Sp.spot I = (u, v) := by
  obtain ⟨r, hr⟩ : ∃ r : Nat, max (u.natAbs : Int) (v.natAbs : Int) = r := ⟨(max (u.natAbs : Int) (v.natAbs : Int)).toNat, by omega⟩
  by_cases h0 : r = 0
  · subst h0
    obtain rfl : u = 0 := by omega
    obtain rfl : v = 0 := by omega
    exact ⟨0, rfl⟩
  · have key : ∃ j, Sp.IdxIs j u v := by
      rcases Sp.some_hit (by omega) hr with h | h | h | h
      · obtain ⟨al, _, _, h⟩ := Sp.hit_idx (by omega) (by omega) (by omega) (by omega) h; exact ⟨_, h⟩
      · obtain ⟨al, _, _, h⟩ := Sp.hit_idx (by omega) (by omega) (by omega) (by omega) h; exact ⟨_, h⟩
      · obtain ⟨al, _, _, h⟩ := Sp.hit_idx (by omega) (by omega) (by omega) (by omega) h; exact ⟨_, h⟩
      · obtain ⟨al, _, _, h⟩ := Sp.hit_idx (by omega) (by omega) (by omega) (by omega) h; exact ⟨_, h⟩
    obtain ⟨j, hj⟩ := key
    exact ⟨j, Sp.idx_spot hj⟩
set_option maxHeartbeats 8000000 in
set_option maxRecDepth 20000 in
theorem rIndex_near (u v : Int) (I : Nat) (hI : Sp.spot I = (u, v)) (hu : u.natAbs ≤ 5000) (hv : v.natAbs ≤ 5000) (w : World) : Calls Try.prog 19 #[VS (u, v)] w fun e w' => (∃ j : Int, e = .returned (.tuple #[.int .i64 j, .bool (decide (I < 16777216))]) ∧ (I < 16777216 → j = (I : Int))) ∧ Below w.heap.size w w' := by
  have HA := Lib.hid (fun w => rabs_calls u (by omega) (by omega) w)
  have HB := Lib.hid (fun w => rabs_calls v (by omega) (by omega) w)
  have a1 : ¬ (5000 : Int) < (u.natAbs : Int) := by omega
  have b1 : ¬ (5000 : Int) < (v.natAbs : Int) := by omega
  have hu' : -5000 ≤ u ∧ u ≤ 5000 := by omega
  have hv' : -5000 ≤ v ∧ v ≤ 5000 := by omega
  obtain ⟨u1, u2⟩ := hu'
  obtain ⟨v1, v2⟩ := hv'
  have HI := Lib.hid hI
  clear hI hu hv
  generalize (u.natAbs : Int) = ua at *
  generalize (v.natAbs : Int) = va at *
  go_enter Try.func19, Try.ntmps19
  go_wp2_with (first
    | (go_at_call 38; refine (HA.out _).mono ?_; rintro e w' ⟨rfl, rfl⟩)
    | (go_at_call 38; refine (HB.out _).mono ?_; rintro e w' ⟨rfl, rfl⟩))
  have hs2 : SpIs ((w.alloc (Obj.cells #[Value.int .i64 u, Value.int .i64 v] 27)).alloc (Obj.cells #[Value.int .i64 0, Value.int .i64 0] 27)) (w.heap.size + 1) (0, 0) := by
    have := heap_alloc_new (w.alloc (Obj.cells #[Value.int .i64 u, Value.int .i64 v] 27)) (Obj.cells #[Value.int .i64 0, Value.int .i64 0] 27)
    unfold SpIs; simpa using this
  have hs1 : SpIs ((w.alloc (Obj.cells #[Value.int .i64 u, Value.int .i64 v] 27)).alloc (Obj.cells #[Value.int .i64 0, Value.int .i64 0] 27)) w.heap.size (u, v) := by
    unfold SpIs; rw [Below.heap_alloc _ _ _ (by simp), heap_alloc_new]
  have hb : Below w.heap.size w ((w.alloc (Obj.cells #[Value.int .i64 u, Value.int .i64 v] 27)).alloc (Obj.cells #[Value.int .i64 0, Value.int .i64 0] 27)) := ((Below.refl _ _).alloc (Nat.le_refl _) _).alloc (by simp) _
  generalize (w.alloc (Obj.cells #[Value.int .i64 u, Value.int .i64 v] 27)).alloc (Obj.cells #[Value.int .i64 0, Value.int .i64 0] 27) = w1 at *
  have Hs1 := Lib.hid hs1; have Hs2 := Lib.hid hs2; have Hb := Lib.hid hb
  clear hs1 hs2 hb HA HB a1 b1
  go_loopw [5, 6, 7, 8] (fun dx dy n l wr => ∃ (a N : Nat) (p : Int × Int), n = .int .i64 (N : Int) ∧ l = .int .i64 (a : Int) ∧ dx = .int .i64 (Sp.dir a 0).1 ∧ dy = .int .i64 (Sp.dir a 0).2 ∧ 1 ≤ a ∧ a ≤ 4098 ∧ N = a * (a - 1) ∧ N ≤ I ∧ N ≤ 16800000 ∧ p = Sp.walk a 0 ∧ SpIs wr (w.heap.size + 1) p ∧ SpIs wr w.heap.size (u, v) ∧ Below w.heap.size w wr) (fun _ _ n _ _ => 20000000 - (intOf n).toNat)
  case atStart => exact ⟨1, 0, (0, 0), rfl, rfl, rfl, rfl, by omega, by omega, by omega, by omega, by omega, rfl, Hs2.out, Hs1.out, Hb.out⟩
  case round =>
    obtain ⟨a, N, p, rfl, rfl, rfl, rfl, ha1, ha2, hN, hNI, hNb, hp, hsp, hsr, hbl⟩ := hrel
    by_cases hgo : N < 16777216
    · have ha3 : a ≤ 4097 := Sp.leg_le (l := a) (n := 16777215 + 0) (by
        rcases Nat.lt_or_ge (a * (a - 1)) 16777215 with h | h
        · exact h
        · exfalso
          rcases Nat.lt_or_ge a 4097 with h1 | h1
          · have := Nat.mul_le_mul (show a ≤ 4096 by omega) (show a - 1 ≤ 4095 by omega); omega
          · rcases (by omega : a = 4097 ∨ a = 4098) with rfl | rfl <;> omega) (by omega)
      have l0 : (N : Int) < 16777216 := by omega
      have HN := Lib.hid hN; have HNI := Lib.hid hNI; have Hsp := Lib.hid hsp; have Hsr := Lib.hid hsr; have Hbl := Lib.hid hbl; have Hp := Lib.hid hp
      clear hsp hsr hbl hN hNI hp hgo
      generalize wr = wq at *
      go_wp2_with fail
      go_loopw [5, 6, 7, 9] (fun dx dy n h wr => ∃ (k M : Nat) (p : Int × Int), n = .int .i64 (M : Int) ∧ h = .int .i64 (k : Int) ∧ dx = .int .i64 (Sp.dir a k).1 ∧ dy = .int .i64 (Sp.dir a k).2 ∧ k ≤ 2 ∧ M = a * (a - 1) + k * a ∧ M ≤ I ∧ M ≤ 16790000 ∧ p = Sp.walk a (k * a) ∧ SpIs wr (w.heap.size + 1) p ∧ SpIs wr w.heap.size (u, v) ∧ Below w.heap.size w wr) (fun _ _ _ h _ => 2 - (intOf h).toNat)
      case atStart => exact ⟨0, N, p, rfl, rfl, rfl, rfl, by omega, by have := HN.out; omega, HNI.out, by omega, by rw [Nat.zero_mul]; exact Hp.out, Hsp.out, Hsr.out, Hbl.out⟩
      case round =>
        obtain ⟨k, M, p2, rfl, rfl, rfl, rfl, hk, hM, hMI, hMb, hp2, hsp2, hsr2, hbl2⟩ := hrel
        have hM' := hM
        have Hsp2 := Lib.hid hsp2; have Hsr2 := Lib.hid hsr2; have Hbl2 := Lib.hid hbl2; have HMI := Lib.hid hMI
        have hka : k * a ≤ 2 * a := Nat.mul_le_mul_right _ hk
        have hws := Sp.walk_small a (k * a) hka
        rw [← hp2] at hws
        have hds := Sp.dir_small a k
        have c0 := hsp2.c0; have c1 := hsp2.c1; have f0 := hsp2.f0 0; have f1 := hsp2.f0 1
        have e0 := hsr2.c0; have e1 := hsr2.c1
        dsimp only at e0 e1
        have HM := Lib.hid hM; have Hp2 := Lib.hid hp2
        clear hsp2 hsr2 hbl2 hMI
        by_cases hk2 : k < 2
        · have t1 : (k : Int) < 2 := by omega
          have Ht := fun K hK => Sp.leg_tells a k I u v K HI.out hk2 ha1 (by have := HMI.out; omega) hK
          have Hds := Lib.hid (Sp.dir_succ a k hk2)
          have Hst := Lib.hid (Sp.walk_step a k a hk2 (Nat.le_refl _) ha1)
          rw [← hp2] at Ht Hst
          rw [← Nat.succ_mul] at Hst
          obtain ⟨x, y⟩ := p2
          dsimp only at Ht Hst c0 c1 hws
          generalize Sp.dir a k = d at *
          obtain ⟨dx, dy⟩ := d
          dsimp only at Ht Hst hds
          have x1 : -8200 ≤ x ∧ x ≤ 8200 := by omega
          have y1 : -8200 ≤ y ∧ y ≤ 8200 := by omega
          obtain ⟨A, hA, hA1, hA2⟩ : ∃ A : Int, (u - x) * dx = A ∧ -14000 ≤ A ∧ A ≤ 14000 := by
            rcases (by omega : dx = -1 ∨ dx = 0 ∨ dx = 1) with h | h | h <;> rw [h] <;> exact ⟨_, rfl, by omega, by omega⟩
          obtain ⟨B, hB, hB1, hB2⟩ : ∃ B : Int, (v - y) * dy = B ∧ -14000 ≤ B ∧ B ≤ 14000 := by
            rcases (by omega : dy = -1 ∨ dy = 0 ∨ dy = 1) with h | h | h <;> rw [h] <;> exact ⟨_, rfl, by omega, by omega⟩
          obtain ⟨X, hX, hX1, hX2⟩ : ∃ X : Int, (A + B) * dx = X ∧ -28000 ≤ X ∧ X ≤ 28000 := by
            rcases (by omega : dx = -1 ∨ dx = 0 ∨ dx = 1) with h | h | h <;> rw [h] <;> exact ⟨_, rfl, by omega, by omega⟩
          obtain ⟨Y, hY, hY1, hY2⟩ : ∃ Y : Int, (A + B) * dy = Y ∧ -28000 ≤ Y ∧ Y ≤ 28000 := by
            rcases (by omega : dy = -1 ∨ dy = 0 ∨ dy = 1) with h | h | h <;> rw [h] <;> exact ⟨_, rfl, by omega, by omega⟩
          obtain ⟨P, hP, hP1, hP2⟩ : ∃ P : Int, dx * (a : Int) = P ∧ -4100 ≤ P ∧ P ≤ 4100 := by
            rcases (by omega : dx = -1 ∨ dx = 0 ∨ dx = 1) with h | h | h <;> rw [h] <;> exact ⟨_, rfl, by omega, by omega⟩
          obtain ⟨Q, hQ, hQ1, hQ2⟩ : ∃ Q : Int, dy * (a : Int) = Q ∧ -4100 ≤ Q ∧ Q ≤ 4100 := by
            rcases (by omega : dy = -1 ∨ dy = 0 ∨ dy = 1) with h | h | h <;> rw [h] <;> exact ⟨_, rfl, by omega, by omega⟩
          have Ht2 := Ht (A + B) (by rw [hA, hB])
          rw [hX, hY, ← hM'] at Ht2
          rw [hP, hQ] at Hst
          have HT1 := Lib.hid Ht2.1; have HT2 := Lib.hid Ht2.2
          clear Ht Ht2 hM hM' hp2 hws hka
          have HF := Lib.hid ((Hsp2.out.s0 (x + P)).s1 (y + Q))
          have HFr := Lib.hid ((Hsr2.out.other (k := w.heap.size + 1) (o := 0) (v := .int .i64 (x + P)) (by omega)).other (k := w.heap.size + 1) (o := 1) (v := .int .i64 (y + Q)) (by omega))
          have HFb := Lib.hid (below_set (o := 1) (v := .int .i64 (y + Q)) (below_set (o := 0) (v := .int .i64 (x + P)) Hbl2.out (show w.heap.size ≤ w.heap.size + 1 by omega)) (show w.heap.size ≤ w.heap.size + 1 by omega))
          have HMb := Lib.hid (show M + a ≤ 16790000 by have h1 := HM.out; have h2 := HN.out; have : k * a ≤ 1 * a := Nat.mul_le_mul_right _ (by omega); omega)
          have HMk := Lib.hid (show M + a = a * (a - 1) + (k + 1) * a by have := HM.out; rw [Nat.succ_mul]; omega)
          have Hna := Lib.hid (show ¬ (x + X = u ∧ y + Y = v ∧ 0 ≤ A + B ∧ A + B ≤ (a : Int)) → M + a ≤ I from fun h => by have h1 := HT2.out h; have h2 := HMk.out; omega)
          obtain ⟨dx1, dx2, dy1, dy2⟩ := hds
          obtain ⟨x1, x2⟩ := x1
          obtain ⟨y1, y2⟩ := y1
          by_cases g1 : x + X = u
          · by_cases g2 : y + Y = v
            · by_cases g3 : 0 ≤ A + B
              · by_cases g4 : A + B ≤ (a : Int)
                · have Hi := Lib.hid (HT1.out g1 g2 g3 g4)
                  have q1 : (x + X == u) = true := by simpa using g1
                  have q2 : (y + Y == v) = true := by simpa using g2
                  clear g1 g2
                  have Hlt := Lib.hid (show decide (I < 16777216) = decide ((M : Int) + (A + B) < 16777216) by have := Hi.out; congr 1; exact propext ⟨fun h => by omega, fun h => by omega⟩)
                  go_wp2_with fail
                  go_ret2
                  exact ⟨⟨_, by rw [Hlt.out]; rfl, fun _ => Hi.out.symm⟩, Hbl2.out⟩
                · have Hno := Lib.hid (Hna.out (fun h => g4 h.2.2.2))
                  have q1 : (x + X == u) = true := by simpa using g1
                  have q2 : (y + Y == v) = true := by simpa using g2
                  clear g1 g2
                  go_wp2_with fail
                  exact ⟨⟨k + 1, M + a, (x + P, y + Q), by congr 1, by congr 1, by rw [Hds.out], by rw [Hds.out], by omega, HMk.out, Hno.out, HMb.out, Hst.out.symm, HF.out, HFr.out, HFb.out⟩, by simp [intOf]; omega⟩
              · have Hno := Lib.hid (Hna.out (fun h => g3 h.2.2.1))
                have q1 : (x + X == u) = true := by simpa using g1
                have q2 : (y + Y == v) = true := by simpa using g2
                clear g1 g2
                go_wp2_with fail
                exact ⟨⟨k + 1, M + a, (x + P, y + Q), by congr 1, by congr 1, by rw [Hds.out], by rw [Hds.out], by omega, HMk.out, Hno.out, HMb.out, Hst.out.symm, HF.out, HFr.out, HFb.out⟩, by simp [intOf]; omega⟩
            · have Hno := Lib.hid (Hna.out (fun h => g2 h.2.1))
              have q1 : (x + X == u) = true := by simpa using g1
              have q2 : (y + Y == v) = false := by simpa using g2
              clear g1 g2
              go_wp2_with fail
              exact ⟨⟨k + 1, M + a, (x + P, y + Q), by congr 1, by congr 1, by rw [Hds.out], by rw [Hds.out], by omega, HMk.out, Hno.out, HMb.out, Hst.out.symm, HF.out, HFr.out, HFb.out⟩, by simp [intOf]; omega⟩
          · have Hno := Lib.hid (Hna.out (fun h => g1 h.1))
            have q1 : (x + X == u) = false := by simpa using g1
            clear g1
            go_wp2_with fail
            exact ⟨⟨k + 1, M + a, (x + P, y + Q), by congr 1, by congr 1, by rw [Hds.out], by rw [Hds.out], by omega, HMk.out, Hno.out, HMb.out, Hst.out.symm, HF.out, HFr.out, HFb.out⟩, by simp [intOf]; omega⟩
        · obtain rfl : k = 2 := by omega
          have hn := Sp.leg_next a ha1
          have Hfin := Lib.hid (show M = (a + 1) * (a + 1 - 1) ∧ p2 = Sp.walk (a + 1) 0 ∧ Sp.dir a 2 = Sp.dir (a + 1) 0 from ⟨by omega, by rw [hp2, Sp.walk_end a ha1], (Sp.dir_next a).symm⟩)
          have Hd2 := Lib.hid hds
          clear hM hM' hp2 hws hka hn c0 c1 f0 f1 e0 e1 hds
          have hNM : N < M := by have := HM.out; have := HN.out; omega
          generalize Sp.dir a 2 = d at *
          go_wp2_with fail
          exact ⟨⟨a + 1, M, p2, rfl, by congr 1, by rw [← Hfin.out.2.2], by rw [← Hfin.out.2.2], by omega, by omega, Hfin.out.1, HMI.out, by omega, Hfin.out.2.1, Hsp2.out, Hsr2.out, Hbl2.out⟩, by simp [intOf]; omega⟩
    · have hI : ¬ I < 16777216 := by omega
      have HI2 := Lib.hid hI
      have l0 : ¬ (N : Int) < 16777216 := by omega
      clear hN hNI hNb hsp hsr hp hgo hI
      have Hbl := Lib.hid hbl
      clear hbl
      go_wp2_with fail
      go_ret2
      exact ⟨⟨0, by rw [decide_eq_false HI2.out]; rfl, fun h => absurd h HI2.out⟩, Hbl.out⟩
end Go.Proofs.Ytjbidjidfkkikaa
