/- pithlaw1.item; items in memory -/
import Derived.Test.YtkohakogknodeaaVBackM
import Derived.Test.YtkohakogknodeaaLawBelow
import Derived.Test.YtkohakogknodeaaThen
namespace Go.Proofs.Ytkohakogknodeaa
open Go.RowKit
set_option linter.unusedSimpArgs false
set_option linter.unusedVariables false
attribute [local go_sem ↓] load_it
theorem alloc_item (X F : Int) (M : Bool) (A : Option Addr) (n cap : Nat) (w w0 : World) (hw0 : w0 = w.alloc (Obj.cells #[.int .i64 X, .int .i64 F, .bool M, .slice A n cap] 47)) :
    w0.cell? ⟨w.heap.size, 0, none⟩ = some (.int .i64 X) ∧ w0.cell? ⟨w.heap.size, 0 + 1, none⟩ = some (.int .i64 F) ∧ w0.cell? ⟨w.heap.size, 0 + 2, none⟩ = some (.bool M) ∧ w0.cell? ⟨w.heap.size, 0 + 3, none⟩ = some (.slice A n cap) :=
  ⟨by rw [hw0]; simp [go_sem], by rw [hw0]; simp [go_sem], by rw [hw0]; simp [go_sem], by rw [hw0]; simp [go_sem]⟩
set_option maxHeartbeats 4000000 in
set_option maxRecDepth 20000 in
theorem item_calls (g : Nat) (A : Option Addr) (n cap at' base d : Nat) (bs : List (BitVec 8)) (er2 X F : Int) (M whole : Bool) (A' : Option Addr) (n' cap' B : Nat) (zs : List Int) (w : World)
    (hr : RdrIs 68 w base g A n cap bs at' 0) (hm : n ≤ 1099511627776) (hn' : n' = zs.length) (hB : B ≤ w.heap.size) (hr' : Rd w B A' (zs.map VI))
    (h1 : M = true → Vi.rdL (Vi.numF F) 4611686018427387904 (bs.drop at') = (if whole = true then Vi.numsL (Vi.numF F) (zs.take 300) else [], d, er2))
    (h2 : M = false → Vi.numE (bs.drop at') = er2 ∧ Vi.numX (bs.drop at') = (if whole = true then X.toNat else 0) ∧ Vi.numN (bs.drop at') = d) :
    Calls Try.prog 31 #[.pointer (some ⟨g, 0, none⟩), VT X F M A' n' cap', .bool whole] w fun e w' => e = .returned (.bool true) ∧ Upd g w w' ∧ RdrIs 68 w' base g A n cap bs (at' + d) er2 := by
  have hgl := lt_heap hr.1
  have Hr := Lib.hid hr; have Hr' := Lib.hid hr'; have H1 := Lib.hid h1; have H2 := Lib.hid h2; have Hn' := Lib.hid hn'
  clear hr hr' h1 h2 hn'
  unfold VT
  go_enter Try.func31, Try.ntmps31
  go_upto_if 12 with fail
  obtain ⟨w1, hw1⟩ : ∃ x, x = w.alloc (Obj.cells #[.int .i64 X, .int .i64 F, .bool M, .slice A' n' cap'] 47) := ⟨_, rfl⟩
  rw [← hw1]
  have hs1 : w.heap.size < w1.heap.size := by rw [hw1]; simp
  have hb1 : Below w.heap.size w w1 := by rw [hw1]; exact (Below.refl _ _).alloc (Nat.le_refl _) _
  obtain ⟨c0, c1, c2, c3⟩ := alloc_item X F M A' n' cap' w w1 hw1
  have hld := ld_item w.heap.size 0 X F M A' n' cap' w1 c0 c1 c2 c3
  have hcan : CanIt w1 (.pointer (some ⟨w.heap.size, 0, none⟩)) := ⟨_, _, rfl, hld⟩
  have hval := itV_eq hld
  have Hr1 := Lib.hid (RdrIs.below Hr.out hb1); have Hr1' := Lib.hid (Hr'.out.below hb1 hB)
  have Hb1 := Lib.hid hb1
  clear hw1 hb1 hld Hr Hr' c1 c3
  cases M with
  | true =>
    have H1' := Lib.hid (H1.out rfl)
    clear H1 H2
    go_wp2_with fail
    refine (numbers_calls X F true A' n' cap' B zs w1 Hn'.out (by omega) Hr1'.out).mono ?_
    rintro e w2 ⟨A2, m, cap2, rfl, hm2, hown2, hb2⟩
    have hs2 := hb2.size
    have hfb : 0 ≤ Vi.numF F ∧ Vi.numF F < 1048576 := Vi.abm_bound F 1048576 (by decide)
    generalize Vi.numF F = f at *
    generalize Vi.numsL f (zs.take 300) = l at *
    have Hr2 := Lib.hid (RdrIs.below Hr1.out hb2); have Hb2 := Lib.hid (Hb1.out.trans (hb2.mono (by omega))); have Hown2 := Lib.hid hown2; have Hm2 := Lib.hid hm2
    clear hb2 hown2 hm2 hcan hval c0 c2 Hr1 Hr1'
    go_wp2_with fail
    refine (List_calls g A n cap at' base bs 0 f 4611686018427387904 w2 Hr2.out hm (by omega) (by omega) (by omega)).mono ?_
    rintro e w3 ⟨hu3, A3, m3, cap3, rfl, hm3, hown3, hr3⟩
    obtain ⟨s1, s2, s3⟩ := i16s bs at' f 4611686018427387904
    rw [H1'.out] at s1 s2 s3
    rw [s1] at hm3 hown3
    rw [s2, s3] at hr3
    have Hu3 := Lib.hid ((Upd.of_below (g := g) Hb2.out).trans hu3)
    have Hr3 := Lib.hid hr3; have Hown3 := Lib.hid hown3; have Hm3 := Lib.hid hm3
    have Hown23 := Lib.hid (show w3.ownsRow w1.heap.size 3 1 (.slice A2 m cap2) m (l.map VI) from Hown2.out.kept hu3 (by
      rcases Hown2.out.2 with ⟨h, _⟩ | ⟨b, _, _, h, hb, _⟩
      · injection h with h; subst h; exact Or.inl rfl
      · injection h with h; subst h; right; simp [Value.ownBlock]; omega))
    obtain ⟨p1, p2⟩ := own_cap Hown23.out
    obtain ⟨p3, p4⟩ := own_cap Hown3.out
    clear hu3 hr3 hown3 hm3 s1 s2 s3 Hown2 Hr2 Hb2 H1'
    cases whole with
    | true =>
      have Hm3 : Hid (m3 = l.length) := Hm3
      have Hown3 : Hid (w3.ownsRow w2.heap.size 3 1 (.slice A3 m3 cap3) m3 (l.map VI)) := Hown3
      go_wp2_with fail
      refine (sameI_calls A2 A3 m cap2 m3 cap3 _ _ l l w3 Hm2.out Hm3.out p1 p3 p2 p4 (own_rd Hown23.out) (own_rd Hown3.out)).mono ?_
      rintro e w4 ⟨rfl, x4, rfl⟩
      rw [decide_eq_true rfl]
      go_wp2_with fail
      go_ret
      exact ⟨rfl, Hu3.out.drewN x4, RdrIs.below Hr3.out (below_drewN (Below.refl _ _) x4)⟩
    | false =>
      obtain rfl : m3 = 0 := Hm3.out
      go_wp2_with fail
      go_ret
      exact ⟨rfl, Hu3.out, Hr3.out⟩
  | false =>
    obtain ⟨t1, t2, t3⟩ := H2.out rfl
    clear H1 H2 hcan hval
    have hx := Vi.numX_lt (bs.drop at')
    go_wp2_with fail
    refine (int_calls g A n cap at' base bs 0 w1 Hr1.out hm).mono ?_
    rintro e w2 ⟨rfl, hu2, hr2⟩
    obtain ⟨s1, s2, s3⟩ := Vi.iX_zero bs at'
    rw [t3] at s2
    rw [t1] at s3
    rw [t2] at s1 hx
    rw [s2, s3] at hr2
    rw [s1]
    have k0 : w2.cell? ⟨w.heap.size, 0, none⟩ = some (.int .i64 X) := by
      have hb := hu2.block w.heap.size hs1 (by simp; omega)
      have : w2.cell? ⟨w.heap.size, 0, none⟩ = w1.cell? ⟨w.heap.size, 0, none⟩ := by unfold World.cell?; rw [hb]
      rw [this]; exact c0
    have Hu2 := Lib.hid ((Upd.of_below (g := g) Hb1.out).trans hu2); have Hr2 := Lib.hid hr2
    clear hu2 hr2 s1 s2 s3 t1 t2 t3 c0 c2 Hr1 Hr1'
    cases whole with
    | true =>
      rw [if_pos rfl] at hx ⊢
      by_cases hX : X < 0
      · have e0 : X.toNat = 0 := by omega
        rw [e0]
        go_wp2_with fail
        go_ret
        exact ⟨rfl, Hu2.out, Hr2.out⟩
      · have e0 : ((X.toNat : Nat) : Int) = X := by omega
        rw [e0]
        go_wp2_with fail
        go_ret
        exact ⟨by simp, Hu2.out, Hr2.out⟩
    | false =>
      rw [if_neg (by decide)] at hx ⊢
      go_wp2_with fail
      go_ret
      exact ⟨rfl, Hu2.out, Hr2.out⟩
end Go.Proofs.Ytkohakogknodeaa
