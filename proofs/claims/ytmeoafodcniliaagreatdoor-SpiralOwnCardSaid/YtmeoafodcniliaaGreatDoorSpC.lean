/- pithref24.Walk, At; pithlaw24.plain -/
import Derived.Test.YtmeoafodcniliaaGreatDoorSpB
namespace Go.Proofs.YtmeoafodcniliaaGreatDoor.C24
open Go.RowKit
set_option linter.unusedSimpArgs false
set_option linter.unusedVariables false
/-- A place in memory. -/
def SpIs (w : World) (g : Nat) (p : Int × Int) : Prop := w.heap[g]? = some (.cells #[.int .i64 p.1, .int .i64 p.2] 119 (0, 0))
theorem SpIs.c0 {w : World} {g : Nat} {p : Int × Int} (h : SpIs w g p) : w.cell? ⟨g, 0, none⟩ = some (.int .i64 p.1) := by rw [cell_heap h]; rfl
theorem SpIs.c1 {w : World} {g : Nat} {p : Int × Int} (h : SpIs w g p) : w.cell? ⟨g, 1, none⟩ = some (.int .i64 p.2) := by rw [cell_heap h]; rfl
theorem SpIs.f0 {w : World} {g : Nat} {p : Int × Int} (h : SpIs w g p) (o : Nat) : w.frozen? ⟨g, o, none⟩ = false := by
  unfold SpIs at h; simp [World.frozen?, h]
theorem SpIs.below {w w' : World} {g : Nat} {p : Int × Int} {C : Nat} (h : SpIs w g p) (hb : Below C w w') (hg : g < C) : SpIs w' g p := (hb.block g hg).trans h
theorem SpIs.s0 {w : World} {g : Nat} {p : Int × Int} (h : SpIs w g p) (x : Int) : SpIs (w.setCell ⟨g, 0, none⟩ (.int .i64 x)) g (x, p.2) := by
  unfold SpIs
  rw [heap_set h]; rfl
theorem SpIs.s1 {w : World} {g : Nat} {p : Int × Int} (h : SpIs w g p) (y : Int) : SpIs (w.setCell ⟨g, 1, none⟩ (.int .i64 y)) g (p.1, y) := by
  unfold SpIs
  rw [heap_set h]; rfl
theorem SpIs.other {w : World} {g k o : Nat} {p : Int × Int} {v : Value} (h : SpIs w g p) (hk : g ≠ k) : SpIs (w.setCell ⟨k, o, none⟩ v) g p := by
  unfold SpIs at *
  rw [← h]; simp [World.setCell, Array.getElem?_modify, Ne.symm hk]
theorem below_set {B g o : Nat} {w w' : World} {v : Value} (h : Below B w w') (hg : B ≤ g) : Below B w (w'.setCell ⟨g, o, none⟩ v) :=
  h.trans ⟨rfl, rfl, rfl, by simp [World.setCell], fun k hk => by simp [World.setCell, Array.getElem?_modify]; intro e; omega⟩
theorem spot_desc : (Tryz.prog.underlying 119).map aggDesc = some true := by kernel_rfl
theorem spot_size : (Tryz.prog.info? 119).map (·.size) = some 2 := by kernel_rfl
theorem agg_of {P : Program} {ty : TypeId} (h : (P.underlying ty).map aggDesc = some true) : ∃ d, P.underlying ty = some d ∧ aggDesc d = true := by
  cases hu : P.underlying ty with
  | none => rw [hu] at h; cases h
  | some d => rw [hu] at h; exact ⟨d, rfl, by simpa using h⟩
theorem results_spot {P : Program} {fn : Func} {p : Tmp} {ty : TypeId} (h : fn.results = #[.cell p ty]) (tmps : Array Value) (w : World) (g : Nat) (t : TypeId) (cs : Array Value) (fr : Nat × Nat)
    (hp : tmps.getD p undef = .pointer (some ⟨g, 0, none⟩)) (hg : w.heap[g]? = some (.cells cs t fr)) (hu : (P.underlying ty).map aggDesc = some true) (hi : (P.info? ty).map (·.size) = some cs.size) :
    (results fn tmps).run P w = .ok (.agg cs) w := by
  obtain ⟨d, h1, h2⟩ := agg_of hu
  exact results_cell_row h tmps w g t cs fr d hp hg h1 (by cases d <;> simp_all [aggDesc]) hi
theorem spis_two (w : World) : SpIs ((w.alloc (Obj.cells #[Value.int .i64 0, Value.int .i64 0] 119)).alloc (Obj.cells #[Value.int .i64 0, Value.int .i64 0] 119)) (w.heap.size + 1) (0, 0) ∧
    SpIs ((w.alloc (Obj.cells #[Value.int .i64 0, Value.int .i64 0] 119)).alloc (Obj.cells #[Value.int .i64 0, Value.int .i64 0] 119)) w.heap.size (0, 0) := by
  constructor
  · have := heap_alloc_new (w.alloc (Obj.cells #[Value.int .i64 0, Value.int .i64 0] 119)) (Obj.cells #[Value.int .i64 0, Value.int .i64 0] 119)
    unfold SpIs; simpa using this
  · unfold SpIs; rw [Below.heap_alloc _ _ _ (by simp), heap_alloc_new]
set_option maxHeartbeats 4000000 in
theorem Walk_calls (N : Nat) (hN : N < 16777216) (w : World) : Calls Tryz.prog 100 #[.int .i64 (N : Int)] w fun e w' => e = .returned (.agg #[.int .i64 (Sp.spot N).1, .int .i64 (Sp.spot N).2]) ∧ Below w.heap.size w w' := by
  go_enter Tryz.func100, Tryz.ntmps100
  go_wp2_with fail
  go_loopw [0, 4, 5, 6] (fun n dx dy l wr => ∃ (a m : Nat) (p d : Int × Int), n = .int .i64 (m : Int) ∧ l = .int .i64 (a : Int) ∧ dx = .int .i64 d.1 ∧ dy = .int .i64 d.2 ∧ 1 ≤ a ∧ a ≤ 4098 ∧ m < 16777216 ∧ (0 < m → a ≤ 4097 ∧ N = a * (a - 1) + m ∧ p = Sp.walk a 0 ∧ d = Sp.dir a 0) ∧ (m = 0 → p = Sp.spot N) ∧ SpIs wr (w.heap.size + 1) p ∧ SpIs wr w.heap.size (0, 0) ∧ Below w.heap.size w wr) (fun n _ _ _ _ => (intOf n).toNat)
  case atStart =>
    exact ⟨1, N, (0, 0), (1, 0), rfl, rfl, rfl, rfl, by omega, by omega, hN, fun _ => ⟨by omega, by omega, rfl, rfl⟩, fun h => by subst h; rfl, (spis_two w).1, (spis_two w).2, ((Below.refl _ _).alloc (Nat.le_refl _) _).alloc (by simp) _⟩
  case round =>
    obtain ⟨a, m, p, d0, rfl, rfl, rfl, rfl, ha1, ha2, hm, hpos, hz, hsp, hsr, hbl⟩ := hrel
    by_cases h0 : m = 0
    · have hp := hz h0
      subst h0
      rw [hp] at hsp
      have c0 := hsp.c0; have c1 := hsp.c1; have r0 := hsr.c0; have r1 := hsr.c1; have f0 := hsr.f0 0; have f1 := hsr.f0 1
      have Hsp := Lib.hid hsp; have Hsr := Lib.hid hsr; have Hbl := Lib.hid hbl
      clear hpos hz hsp hsr hbl hp
      go_wp2_with fail
      have hF := (Hsr.out.s0 (Sp.spot N).1).s1 (Sp.spot N).2
      refine bodyPost_ret (results_spot rfl _ _ w.heap.size 119 _ (0, 0) rfl hF spot_desc spot_size) rfl ?_
      exact ⟨rfl, below_set (below_set Hbl.out (Nat.le_refl _)) (Nat.le_refl _)⟩
    · obtain ⟨ha3, hNm, hp, hd0⟩ := hpos (by omega)
      have l0 : (0 : Int) < (m : Int) := by omega
      have HN := Lib.hid hNm; have Hsp := Lib.hid hsp; have Hsr := Lib.hid hsr; have Hbl := Lib.hid hbl; have Hp := Lib.hid hp
      clear hpos hz hsp hsr hbl hNm hp
      obtain ⟨M, hM⟩ : ∃ M, M = m := ⟨_, rfl⟩
      have HM := Lib.hid hM
      clear hM
      generalize wr = wq at *
      have Hd0 := Lib.hid hd0
      clear hd0
      go_wp2_with fail
      go_loopw [0, 4, 5, 7] (fun n dx dy h wr => ∃ (k c m : Nat) (p : Int × Int), n = .int .i64 (m : Int) ∧ h = .int .i64 (k : Int) ∧ dx = .int .i64 (Sp.dir a k).1 ∧ dy = .int .i64 (Sp.dir a k).2 ∧ k ≤ 2 ∧ c + m = M ∧ c ≤ 2 * a ∧ (0 < m → c = k * a) ∧ m ≤ M ∧ p = Sp.walk a c ∧ (c = 0 → m = M) ∧ (k = 1 → 0 < c) ∧ (k = 2 → 0 < c) ∧ SpIs wr (w.heap.size + 1) p ∧ SpIs wr w.heap.size (0, 0) ∧ Below w.heap.size w wr) (fun _ _ _ h _ => 2 - (intOf h).toNat)
      case atStart => exact ⟨0, 0, m, p, rfl, rfl, by rw [← Hd0.out], by rw [← Hd0.out], by omega, by have := HM.out; omega, by omega, fun _ => by omega, by have := HM.out; omega, Hp.out, fun _ => HM.out.symm, by omega, by omega, Hsp.out, Hsr.out, Hbl.out⟩
      case round =>
        obtain ⟨k, c, m2, p2, rfl, rfl, rfl, rfl, hk, hcm, hc2, hck, hmM, hp2, hc0, hk1, hk2, hsp2, hsr2, hbl2⟩ := hrel
        have Hsp2 := Lib.hid hsp2; have Hsr2 := Lib.hid hsr2; have Hbl2 := Lib.hid hbl2; have Hp2 := Lib.hid hp2
        have hws := Sp.walk_small a c hc2
        rw [← hp2] at hws
        have hds := Sp.dir_small a k
        have hm2b : m2 < 16777216 := by have := HM.out; omega
        clear hsp2 hsr2 hbl2 hp2
        by_cases hgo : k < 2 ∧ 0 < m2
        · obtain ⟨g1, g2⟩ := hgo
          have t1 : (k : Int) < 2 := by omega
          have t2 : (0 : Int) < (m2 : Int) := by omega
          have hcc := hck g2
          have Hds := Lib.hid (Sp.dir_succ a k g1)
          have hbm : ∃ b : Nat, b ≤ a ∧ 1 ≤ b ∧ b ≤ m2 ∧ (((a : Int) ≤ (m2 : Int) ∧ b = a) ∨ (¬ (a : Int) ≤ (m2 : Int) ∧ b = m2)) := by
            by_cases h : a ≤ m2
            · exact ⟨a, by omega, by omega, h, Or.inl ⟨by omega, rfl⟩⟩
            · exact ⟨m2, by omega, by omega, by omega, Or.inr ⟨by omega, rfl⟩⟩
          obtain ⟨b, hb1, hb2, hb3, hb4⟩ := hbm
          have Hst := Lib.hid (Sp.walk_step a k b g1 hb1 hb2)
          rw [← hcc, ← Hp2.out] at Hst
          obtain ⟨px, hpx, hpx1, hpx2⟩ : ∃ px : Int, (Sp.dir a k).1 * (b : Int) = px ∧ -4097 ≤ px ∧ px ≤ 4097 := by
            rcases (by omega : (Sp.dir a k).1 = -1 ∨ (Sp.dir a k).1 = 0 ∨ (Sp.dir a k).1 = 1) with h | h | h <;> rw [h] <;> exact ⟨_, rfl, by omega, by omega⟩
          obtain ⟨py, hpy, hpy1, hpy2⟩ : ∃ py : Int, (Sp.dir a k).2 * (b : Int) = py ∧ -4097 ≤ py ∧ py ≤ 4097 := by
            rcases (by omega : (Sp.dir a k).2 = -1 ∨ (Sp.dir a k).2 = 0 ∨ (Sp.dir a k).2 = 1) with h | h | h <;> rw [h] <;> exact ⟨_, rfl, by omega, by omega⟩
          rw [hpx, hpy] at Hst
          have hx1 : -8200 ≤ p2.1 ∧ p2.1 ≤ 8200 := by omega
          have hy1 : -8200 ≤ p2.2 ∧ p2.2 ≤ 8200 := by omega
          obtain ⟨x, y⟩ := p2
          have HF := Lib.hid ((Hsp2.out.s0 (x + px)).s1 (y + py))
          have HFr := Lib.hid ((Hsr2.out.other (k := w.heap.size + 1) (o := 0) (v := .int .i64 (x + px)) (by omega)).other (k := w.heap.size + 1) (o := 1) (v := .int .i64 (y + py)) (by omega))
          have HFb := Lib.hid (below_set (o := 1) (v := .int .i64 (y + py)) (below_set (o := 0) (v := .int .i64 (x + px)) Hbl2.out (show w.heap.size ≤ w.heap.size + 1 by omega)) (show w.heap.size ≤ w.heap.size + 1 by omega))
          have c0 := Hsp2.out.c0; have c1 := Hsp2.out.c1; have f0 := Hsp2.out.f0 0; have f1 := Hsp2.out.f0 1
          dsimp only at c0 c1 hx1 hy1 hws Hst
          generalize Sp.dir a k = d at *
          obtain ⟨dx, dy⟩ := d
          dsimp only at hpx hpy hds
          have Hcc := Lib.hid hcc
          clear hck hc0 hk1 hk2 hcc
          rcases hb4 with ⟨hb5, rfl⟩ | ⟨hb5, rfl⟩
          · go_wp2_with fail
            exact ⟨⟨k + 1, c + b, m2 - b, (x + px, y + py), by congr 1; omega, by congr 1, by rw [Hds.out], by rw [Hds.out], by omega, by omega, by rcases (by omega : k = 0 ∨ k = 1) with h | h <;> have := Hcc.out <;> subst h <;> omega, fun _ => by rw [Hcc.out, Nat.succ_mul], by omega, Hst.out.symm, by omega, by omega, by omega, HF.out, HFr.out, HFb.out⟩, by simp [intOf]; omega⟩
          · go_wp2_with fail
            exact ⟨⟨k + 1, c + b, 0, (x + px, y + py), by first | rfl | (congr 1; omega), by congr 1, by rw [Hds.out], by rw [Hds.out], by omega, by omega, by rcases (by omega : k = 0 ∨ k = 1) with h | h <;> have := Hcc.out <;> subst h <;> omega, by omega, by omega, Hst.out.symm, by omega, by omega, by omega, HF.out, HFr.out, HFb.out⟩, by simp [intOf]; omega⟩
        · have hm1 := HM.out
          have hfin : m2 < m ∧ (0 < m2 → a + 1 ≤ 4097 ∧ N = (a + 1) * (a + 1 - 1) + m2 ∧ p2 = Sp.walk (a + 1) 0 ∧ Sp.dir a k = Sp.dir (a + 1) 0) ∧ (m2 = 0 → p2 = Sp.spot N) := by
            have hNm := HN.out
            have hn := Sp.leg_next a ha1
            have hcpos : 0 < c := by
              rcases (by omega : k = 0 ∨ k = 1 ∨ k = 2) with h | h | h
              · rcases Nat.eq_zero_or_pos c with h' | h'
                · have := hc0 h'; omega
                · exact h'
              · exact hk1 h
              · exact hk2 h
            refine ⟨by omega, fun hp0 => ?_, fun hp0 => ?_⟩
            · have hk2' : k = 2 := by omega
              have hc := hck hp0
              subst hk2'
              have hNN : N = (a + 1) * (a + 1 - 1) + m2 := by omega
              refine ⟨Sp.leg_le (n := N) (by omega) hN, hNN, by rw [Hp2.out, hc, Sp.walk_end a ha1], (Sp.dir_next a).symm⟩
            · rw [Hp2.out, Sp.walk_spot' a c ha1 hc2]; congr 1; omega
          obtain ⟨hf1, hf2, hf3⟩ := hfin
          have Hf2 := Lib.hid hf2; have Hf3 := Lib.hid hf3
          clear hf2 hf3 hck hc0 hk1 hk2 hws hds
          generalize Sp.dir a k = d at *
          rcases (by omega : k = 2 ∨ (k < 2 ∧ m2 = 0)) with hk2 | ⟨hk2, hm0⟩
          · have t1 : ¬ (k : Int) < 2 := by omega
            clear hk2 hgo
            go_wp2_with fail
            exact ⟨⟨a + 1, m2, p2, d, rfl, by congr 1, rfl, rfl, by omega, by omega, by omega, Hf2.out, Hf3.out, Hsp2.out, Hsr2.out, Hbl2.out⟩, by simp [intOf]; omega⟩
          · have t1 : (k : Int) < 2 := by omega
            have t2 : ¬ (0 : Int) < (m2 : Int) := by omega
            clear hk2 hgo
            have Hm0 := Lib.hid hm0
            clear hm0
            go_wp2_with fail
            exact ⟨⟨a + 1, m2, p2, d, rfl, by congr 1, rfl, rfl, by omega, by omega, by omega, Hf2.out, Hf3.out, Hsp2.out, Hsr2.out, Hbl2.out⟩, by simp [intOf]; omega⟩
end Go.Proofs.YtmeoafodcniliaaGreatDoor.C24
