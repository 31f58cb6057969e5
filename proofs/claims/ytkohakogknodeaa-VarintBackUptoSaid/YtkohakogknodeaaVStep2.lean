/- step: one call at both -/
import Derived.Test.YtkohakogknodeaaVStep
namespace Go.Proofs.Ytkohakogknodeaa
open Go.RowKit
set_option linter.unusedSimpArgs false
set_option linter.unusedVariables false
/-- Two blocks alone may have changed; memory may have grown. -/
structure Upd2 (g h : Nat) (w w' : World) : Prop where
  os : w'.os = w.os
  tape : w'.tape = w.tape
  output : w'.output = w.output
  size : w.heap.size ≤ w'.heap.size
  block : ∀ k, k < w.heap.size → k ≠ g → k ≠ h → w'.heap[k]? = w.heap[k]?
theorem Upd2.refl (g h : Nat) (w : World) : Upd2 g h w w := ⟨rfl, rfl, rfl, Nat.le_refl _, fun _ _ _ _ => rfl⟩
theorem Upd2.trans {g h : Nat} {a b c : World} (x : Upd2 g h a b) (y : Upd2 g h b c) : Upd2 g h a c :=
  ⟨y.os.trans x.os, y.tape.trans x.tape, y.output.trans x.output, Nat.le_trans x.size y.size, fun k hk h1 h2 => (y.block k (Nat.lt_of_lt_of_le hk x.size) h1 h2).trans (x.block k hk h1 h2)⟩
theorem Upd.two {g : Nat} {w w' : World} (x : Upd g w w') (h : Nat) : Upd2 g h w w' := ⟨x.os, x.tape, x.output, x.size, fun k hk h1 _ => x.block k hk (by simpa using h1)⟩
theorem Upd.two' {h : Nat} {w w' : World} (x : Upd h w w') (g : Nat) : Upd2 g h w w' := ⟨x.os, x.tape, x.output, x.size, fun k hk _ h2 => x.block k hk (by simpa using h2)⟩
theorem Upd2.of_below {g h B : Nat} {w w' : World} (x : Below B w w') (hB : w.heap.size ≤ B) : Upd2 g h w w' := ⟨x.os, x.tape, x.output, x.size, fun k hk _ _ => x.block k (Nat.lt_of_lt_of_le hk hB)⟩
/-- A block above what was there may have changed too. -/
theorem Upd2.fresh {g h k : Nat} {w w1 w' : World} (x : Upd2 g h w w1) (y : Upd k w1 w') (hk : w.heap.size ≤ k) : Upd2 g h w w' :=
  ⟨y.os.trans x.os, y.tape.trans x.tape, y.output.trans x.output, Nat.le_trans x.size y.size, fun i hi h1 h2 => (y.block i (Nat.lt_of_lt_of_le hi x.size) (by simp; omega)).trans (x.block i hi h1 h2)⟩
theorem Upd2.below {g h B : Nat} {w w' : World} (x : Upd2 g h w w') (h1 : B ≤ g) (h2 : B ≤ h) (hs : B ≤ w.heap.size) : Below B w w' :=
  ⟨x.os, x.tape, x.output, x.size, fun k hk => x.block k (Nat.lt_of_lt_of_le hk hs) (by omega) (by omega)⟩
theorem RdrIs.other2 {T T1 T2 : TypeId} {w w' : World} {base g h k n cap at' : Nat} {A : Option Addr} {bs : List (BitVec 8)} {er : Int} {c1 c2 : Array Value} {f1 f2 : Nat × Nat} (hr : RdrIs T w base k A n cap bs at' er)
    (hg : w.heap[g]? = some (.cells c1 T1 f1)) (hh : w.heap[h]? = some (.cells c2 T2 f2)) (t1 : T1 ≠ 5) (t2 : T2 ≠ 5) (n1 : k ≠ g) (n2 : k ≠ h) (hu : Upd2 g h w w') : RdrIs T w' base k A n cap bs at' er := by
  refine ⟨(hu.block k (lt_heap hr.1) n1 n2).trans hr.1, ⟨hr.2.1.1, ?_⟩, hr.2.2⟩
  rcases hr.2.1.2 with e | ⟨i, c, cur, e1, e2, e3, e4⟩
  · exact Or.inl e
  · refine Or.inr ⟨i, c, cur, e1, e2, (hu.block i (lt_heap e3) ?_ ?_).trans e3, e4⟩
    · intro e; subst e; rw [hg] at e3; injection e3 with e3; injection e3 with _ e3 _; exact t1 e3
    · intro e; subst e; rw [hh] at e3; injection e3 with e3; injection e3 with _ e3 _; exact t2 e3
def VO (K F L : Int) (S : Bool) : Value := .agg #[.int .i64 K, .int .i64 F, .int .i64 L, .bool S]
theorem quiet_num (x : Int) (w : World) (m : Nat) (h0 : 0 ≤ x) (h1 : x ≤ 100) : Calls Try.prog 30 #[.int .i64 x] (w.drewN m) fun e w' => e = .returned (.int .i64 x) ∧ ∃ k, w' = w.drewN k :=
  (num_calls x (w.drewN m) h0 h1).mono fun _ _ ⟨he, hw⟩ => ⟨he, m, hw.symm⟩
theorem iE_small (bs : List (BitVec 8)) (at' : Nat) (er : Int) (h0 : 0 ≤ er) (h1 : er ≤ 100) : 0 ≤ Vi.iE bs at' er ∧ Vi.iE bs at' er ≤ 100 := by
  unfold Vi.iE; split
  · exact numE_small _
  · exact ⟨h0, h1⟩
theorem jE_small (bs : List (BitVec 8)) (at' : Nat) (er f bel : Int) (h0 : 0 ≤ er) (h1 : er ≤ 100) : 0 ≤ Vi.jE bs at' er f bel ∧ Vi.jE bs at' er f bel ≤ 100 := by
  unfold Vi.jE; split
  · exact rdE_small _ _ _
  · exact ⟨h0, h1⟩
def StepAns (g h : Nat) (A A' : Option Addr) (n cap cap' base base' : Nat) (bs : List (BitVec 8)) (w : World) (e : Ending) (w' : World) : Prop :=
  e = .returned (.bool true) ∧ ∃ at2 er2, RdrIs 68 w' base g A n cap bs at2 er2 ∧ RdrIs 70 w' base' h A' n cap' bs at2 er2 ∧ Upd2 g h w w' ∧ 0 ≤ er2 ∧ er2 ≤ 100
set_option maxHeartbeats 4000000 in
set_option maxRecDepth 20000 in
theorem step_calls (K F L : Int) (S : Bool) (g h : Nat) (A A' : Option Addr) (n cap cap' at' base base' : Nat) (bs : List (BitVec 8)) (er : Int) (w : World) (hr : RdrIs 68 w base g A n cap bs at' er) (hd : RdrIs 70 w base' h A' n cap' bs at' er) (hne : g ≠ h)
    (hm : n ≤ 1099511627776) (h0 : 0 ≤ er) (h1 : er ≤ 100) (hf : F ≤ 9223372036854775807) (hbm : -9223372036854775808 ≤ L) (hbl : L ≤ 9223372036854775807) :
    Calls Try.prog 27 #[VO K F L S, .pointer (some ⟨g, 0, none⟩), .pointer (some ⟨h, 0, none⟩)] w (StepAns g h A A' n cap cap' base base' bs w) := by
  have hgl := lt_heap hr.1
  have hhl := lt_heap hd.1
  have Hr := Lib.hid hr; have Hd := Lib.hid hd
  clear hr hd
  unfold VO
  go_enter Try.func27, Try.ntmps27
  go_upto_block 0 with fail
  obtain ⟨w1, hw1⟩ : ∃ x, x = w.alloc (Obj.cells #[.int .i64 K, .int .i64 F, .int .i64 L, .bool S] 40) := ⟨_, rfl⟩
  rw [← hw1]
  have hs1 : w.heap.size < w1.heap.size := by rw [hw1]; simp
  have hb1 : Below w.heap.size w w1 := by rw [hw1]; exact (Below.refl _ _).alloc (Nat.le_refl _) _
  have Hc := Lib.hid (show w1.heap[w.heap.size]? = some (Obj.cells #[.int .i64 K, .int .i64 F, .int .i64 L, .bool S] 40 (0, 0)) by rw [hw1]; exact heap_alloc_new w _)
  have Hr1 := Lib.hid (RdrIs.below Hr.out hb1); have Hd1 := Lib.hid (RdrIs.below Hd.out hb1)
  have Hb1 := Lib.hid hb1
  clear hw1 hb1
  by_cases k1 : K = 1
  · subst k1
    go_wp2_with fail
    refine (int_calls g A n cap at' base bs er w1 Hr1.out hm).mono ?_
    rintro e w2 ⟨rfl, hu2, hr2⟩
    have hd2 := RdrIs.other Hd1.out Hr1.out.1 (by decide) (fun e => hne e.symm) hu2
    have Hu2 := Lib.hid ((Upd2.of_below (g := g) (h := h) Hb1.out (Nat.le_refl _)).trans (hu2.two h))
    have Hr2 := Lib.hid hr2; have Hd2 := Lib.hid hd2
    clear hu2 hr2 hd2 Hr1 Hd1
    go_wp2_with fail
    refine (rint_calls h A' n cap' at' base' bs er w2 Hd2.out hm).mono ?_
    rintro e w3 ⟨rfl, hu3, hd3⟩
    have hr3 := RdrIs.other Hr2.out Hd2.out.1 (by decide) hne hu3
    have Hu3 := Lib.hid (Hu2.out.trans (hu3.two' g))
    have Hr3 := Lib.hid hr3; have Hd3 := Lib.hid hd3
    have hE := iE_small bs at' er h0 h1
    clear hu3 hr3 hd3 Hr2 Hd2 Hu2
    go_wp2_with fail
    go_ret
    exact ⟨rfl, _, _, Hr3.out, Hd3.out, Hu3.out, hE.1, hE.2⟩
  · have e1 : (K == 1) = false := by rw [beq_eq_false_iff_ne]; exact k1
    clear k1
    by_cases k2 : K = 2
    · subst k2
      have d1 : w1.cell? ⟨w.heap.size, 1, none⟩ = some (.int .i64 F) := by rw [cell_heap Hc.out]; rfl
      have d2 : w1.cell? ⟨w.heap.size, 2, none⟩ = some (.int .i64 L) := by rw [cell_heap Hc.out]; rfl
      go_wp2_with fail
      refine (List_calls g A n cap at' base bs er F L w1 Hr1.out hm hf hbl hbm).mono ?_
      rintro e w2 ⟨hu2, A2, m2, cap2, rfl, hm2, hown2, hr2⟩
      have hd2 := RdrIs.other Hd1.out Hr1.out.1 (by decide) (fun e => hne e.symm) hu2
      have hc2 : w2.heap[w.heap.size]? = some (Obj.cells #[.int .i64 2, .int .i64 F, .int .i64 L, .bool S] 40 (0, 0)) := by rw [hu2.block _ hs1 (by simp; omega)]; exact Hc.out
      have hs2 := hu2.size
      have Hu2 := Lib.hid ((Upd2.of_below (g := g) (h := h) Hb1.out (Nat.le_refl _)).trans (hu2.two h))
      have Hr2 := Lib.hid hr2; have Hd2 := Lib.hid hd2; have Hown2 := Lib.hid hown2; have Hm2 := Lib.hid hm2
      clear d1 d2 hu2 hr2 hd2 hown2 hm2 Hr1 Hd1 Hc
      have d1 : w2.cell? ⟨w.heap.size, 1, none⟩ = some (.int .i64 F) := by rw [cell_heap hc2]; rfl
      have d2 : w2.cell? ⟨w.heap.size, 2, none⟩ = some (.int .i64 L) := by rw [cell_heap hc2]; rfl
      clear hc2
      go_wp2_with fail
      refine (rList_calls h A' n cap' at' base' bs er F L w2 Hd2.out hm hf hbl hbm).mono ?_
      rintro e w3 ⟨hu3, A3, m3, cap3, rfl, hm3, hown3, hd3⟩
      have hr3 := RdrIs.other Hr2.out Hd2.out.1 (by decide) hne hu3
      have Hu3 := Lib.hid (Hu2.out.trans (hu3.two' g))
      have hown23 := Hown2.out.kept hu3 (by
        rcases Hown2.out.2 with ⟨h, _⟩ | ⟨b, _, _, h, hb, _⟩
        · injection h with h; subst h; exact Or.inl rfl
        · injection h with h; subst h; right; simp [Value.ownBlock]; omega)
      have Hr3 := Lib.hid hr3; have Hd3 := Lib.hid hd3; have Hown23 := Lib.hid hown23; have Hown3 := Lib.hid hown3; have Hm3 := Lib.hid hm3
      have hE := jE_small bs at' er F L h0 h1
      obtain ⟨p1, p2⟩ := own_cap hown23
      obtain ⟨p3, p4⟩ := own_cap hown3
      clear d1 d2 hu3 hr3 hd3 hown23 hown3 hm3 Hr2 Hd2 Hu2 Hown2
      go_wp2_with fail
      refine (sameI_calls A2 A3 m2 cap2 m3 cap3 _ _ (Vi.jL bs at' er F L) (Vi.jL bs at' er F L) w3 Hm2.out Hm3.out p1 p3 p2 p4 (own_rd Hown23.out) (own_rd Hown3.out)).mono ?_
      rintro e w4 ⟨rfl, x4, rfl⟩
      rw [decide_eq_true rfl]
      have Hr4 := Lib.hid (RdrIs.below Hr3.out (below_drewN (Below.refl _ _) x4)); have Hd4 := Lib.hid (RdrIs.below Hd3.out (below_drewN (Below.refl _ _) x4))
      have Hown4 := Lib.hid (own_below Hown23.out (below_drewN (Below.refl _ _) x4) (Nat.le_refl _))
      have Hu4 := Lib.hid (Hu3.out.trans (Upd2.of_below (below_drewN (Below.refl _ _) x4) (Nat.le_refl _)))
      generalize w3.drewN x4 = w4 at *
      generalize Vi.jL bs at' er F L = zs at *
      have Hlen := Lib.hid (show zs.length = m2 from Hm2.out.symm)
      unfold maxLen at p2
      clear Hr3 Hd3 Hown23 Hown3 Hu3 Hm2 Hm3 p3 p4
      go_wp2_with fail
      go_loopw [10] (fun i wr => ∃ (a : Nat) (X : List Int), i = .int .i64 (a : Int) ∧ a ≤ m2 ∧ X.length = m2 ∧ wr.ownsRow w1.heap.size 3 1 (.slice A2 m2 cap2) m2 (X.map VI) ∧
        RdrIs 68 wr base g A n cap bs (Vi.jAt bs at' er F L) (Vi.jE bs at' er F L) ∧ RdrIs 70 wr base' h A' n cap' bs (Vi.jAt bs at' er F L) (Vi.jE bs at' er F L) ∧ Upd2 g h w wr) (fun i _ => m2 - (intOf i).toNat)
      case atStart => exact ⟨0, zs, rfl, by omega, Hlen.out, Hown4.out, Hr4.out, Hd4.out, Hu4.out⟩
      case round =>
        obtain ⟨a, X, rfl, ha, hX, hown, hr, hd, hu⟩ := hrel
        by_cases hlt : a < m2
        · have l1 : (a : Int) < (m2 : Int) := by omega
          obtain ⟨gx, rfl⟩ := own_some1 hown (by omega)
          have hgx := (hown.lt gx rfl).1
          obtain ⟨cur, hh⟩ : ∃ cur, wr.heap[gx]? = some (.cells cur 3 (0, 0)) := by
            rcases hown.2 with ⟨h, _⟩ | ⟨b, _, cur, h, _, hb, _⟩
            · omega
            · injection h with h; injection h with h; injection h with h; subst h; exact ⟨cur, hb⟩
          obtain ⟨y, hy⟩ : ∃ y, X[a]? = some y := ⟨X[a]'(by omega), List.getElem?_eq_getElem _⟩
          have hc := hown.cellAt a (by omega)
          rw [List.getElem?_map, hy] at hc
          have hc : wr.cell? ⟨gx, a, none⟩ = some (VI y) := hc
          have hf := hown.frozenAt a
          have U := Lib.hid (Upd.setCell (g := gx) wr a (.int .i64 (-1)))
          have HR := Lib.hid (RdrIs.other hr hh (by decide) (by omega) U.out); have HD := Lib.hid (RdrIs.other hd hh (by decide) (by omega) U.out)
          have HU := Lib.hid (hu.fresh U.out (by omega))
          have HX := Lib.hid hX; have Hown := Lib.hid hown
          clear hX hown hr hd hu hy hh
          go_wp2_with fail
          refine ⟨⟨a + 1, X.set a (-1), by congr 1, by omega, by rw [List.length_set]; exact HX.out, ?_, HR.out, HD.out, HU.out⟩, by simp [intOf]; omega⟩
          rw [List.map_set]
          exact (Hown.out.stored _ _).1
        · have l1 : ¬ (a : Int) < (m2 : Int) := by omega
          have HR := Lib.hid hr; have HD := Lib.hid hd; have HU := Lib.hid hu
          clear hX hown hr hd hu
          go_wp2_with fail
          go_ret
          exact ⟨rfl, _, _, HR.out, HD.out, HU.out, hE.1, hE.2⟩
    · have e2 : (K == 2) = false := by rw [beq_eq_false_iff_ne]; exact k2
      clear k2
      by_cases k3 : K = 3
      · subst k3
        go_wp2_with fail
        refine (left_calls g A n cap at' base bs er w1 Hr1.out hm).mono ?_
        rintro e w2 ⟨rfl, x2, rfl⟩
        have Hr2 := Lib.hid (RdrIs.below Hr1.out (below_drewN (Below.refl _ _) x2)); have Hd2 := Lib.hid (RdrIs.below Hd1.out (below_drewN (Below.refl _ _) x2))
        have Hb2 := Lib.hid (below_drewN Hb1.out x2)
        generalize w1.drewN x2 = w2 at *
        go_wp2_with fail
        refine (rleft_calls h A' n cap' at' base' bs er w2 Hd2.out hm).mono ?_
        rintro e w3 ⟨rfl, x3, rfl⟩
        go_wp2_with fail
        go_ret
        exact ⟨rfl, _, _, RdrIs.below Hr2.out (below_drewN (Below.refl _ _) x3), RdrIs.below Hd2.out (below_drewN (Below.refl _ _) x3), Upd2.of_below (below_drewN Hb2.out x3) (Nat.le_refl _), h0, h1⟩
      · have e3 : (K == 3) = false := by rw [beq_eq_false_iff_ne]; exact k3
        clear k3
        by_cases k4 : K = 4
        · subst k4
          go_wp2_with fail
          refine (err_calls g A n cap at' base bs er w1 Hr1.out).mono ?_
          rintro e w2 ⟨rfl, x2, rfl⟩
          have Hr2 := Lib.hid (RdrIs.below Hr1.out (below_drewN (Below.refl _ _) x2)); have Hd2 := Lib.hid (RdrIs.below Hd1.out (below_drewN (Below.refl _ _) x2))
          have Hb2 := Lib.hid (below_drewN Hb1.out x2)
          generalize w1.drewN x2 = w2 at *
          have y1 : w2.cell? ⟨h, 1, none⟩ = some (.int .i64 (at' : Int)) := by rw [cell_heap Hd2.out.1]; rfl
          have y2 : w2.cell? ⟨h, 2, none⟩ = some (.int .i64 er) := by rw [cell_heap Hd2.out.1]; rfl
          go_wp2_with fail
          go_quiet ((go_at_call 30; exact quiet_num er _ _ h0 h1))
          go_wp2_with fail
          go_ret
          exact ⟨rfl, _, _, RdrIs.below Hr2.out (below_drewN (Below.refl _ _) nq), RdrIs.below Hd2.out (below_drewN (Below.refl _ _) nq), Upd2.of_below (below_drewN Hb2.out nq) (Nat.le_refl _), h0, h1⟩
        · have e4 : (K == 4) = false := by rw [beq_eq_false_iff_ne]; exact k4
          clear k4
          go_wp2_with fail
          go_ret
          exact ⟨rfl, _, _, Hr1.out, Hd1.out, Upd2.of_below Hb1.out (Nat.le_refl _), h0, h1⟩
end Go.Proofs.Ytkohakogknodeaa
