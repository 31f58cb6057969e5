/- spiral.Centre -/
import Derived.Test.YtjbidjidfkkikaaSpT
import Derived.Test.YtjbidjidfkkikaaSpP
namespace Go.Proofs.Ytjbidjidfkkikaa
open Go.RowKit
set_option linter.unusedSimpArgs false
set_option linter.unusedVariables false
/-- The sum of what is kept. -/
def Sp.cs (f : Nat → Int) (K : Nat → Bool) : Nat → Int
  | 0 => 0
  | n + 1 => if K n then Sp.cs f K n + f n else Sp.cs f K n
theorem Sp.cs_le (f : Nat → Int) (K : Nat → Bool) (m : Nat) (B : Int) (hB : 0 ≤ B) (hK : ∀ i, K i = true → i < m) (hf : ∀ i, -B ≤ f i ∧ f i ≤ B) : ∀ n, -(min n m : Nat) * B ≤ Sp.cs f K n ∧ Sp.cs f K n ≤ (min n m : Nat) * B
  | 0 => by simp [Sp.cs]
  | n + 1 => by
    obtain ⟨h1, h2⟩ := Sp.cs_le f K m B hB hK hf n
    have hf := hf n
    unfold Sp.cs
    split
    · rename_i hk
      have := hK n hk
      rw [show min (n + 1) m = n + 1 by omega, show min n m = n by omega] at *
      have e : ((n + 1 : Nat) : Int) * B = (n : Int) * B + B := by push_cast; rw [Int.add_mul, Int.one_mul]
      rw [Int.neg_mul] at *
      omega
    · have e : (min n m : Nat) ≤ (min (n + 1) m : Nat) := by omega
      have e2 : ((min n m : Nat) : Int) * B ≤ ((min (n + 1) m : Nat) : Int) * B := Int.mul_le_mul_of_nonneg_right (by omega) hB
      rw [Int.neg_mul] at *
      omega
theorem Sp.cs_up (f : Nat → Int) (K : Nat → Bool) (n : Nat) (h : ∀ i, n ≤ i → K i = false) : ∀ d, Sp.cs f K (n + d) = Sp.cs f K n
  | 0 => rfl
  | d + 1 => by
    show (if K (n + d) then _ else _) = _
    rw [h (n + d) (by omega), if_neg (by decide)]
    exact Sp.cs_up f K n h d
theorem add_n {x y : Nat} {u v : Int} (hx : Fl.IsN x u) (hy : Fl.IsN y v) (hz : (u + v).natAbs < 2 ^ 53) : ∃ r, Ieee.double.add x y = some r ∧ Fl.IsN r (u + v) := by
  obtain ⟨r, h1, h2, _⟩ := hx.add hy hz
  exact ⟨r, h1, h2.n hz⟩
/-- The places that are handed in. -/
def Sp.cl (f g : Nat → Int) (m : Nat) : List (Nat × Nat) := (List.range m).map fun i => (fv (f i), fv (g i))
theorem Sp.cl_get (f g : Nat → Int) (m i : Nat) (h : i < m) : (Sp.cl f g m)[i]? = some (fv (f i), fv (g i)) := by
  unfold Sp.cl; rw [List.getElem?_map, List.getElem?_range h]; rfl
set_option maxHeartbeats 4000000 in
theorem Centre_calls (f g : Nat → Int) (A A' : Option Addr) (m cap n cap' B B' : Nat) (ks : List Bool) (w : World) (hm : m ≤ 3000) (hn : n = ks.length) (hn2 : n ≤ 140737488351232) (hf : ∀ i, -4294967296 ≤ f i ∧ f i ≤ 4294967296) (hg : ∀ i, -4294967296 ≤ g i ∧ g i ≤ 4294967296)
    (hr : Rd w B A ((Sp.cl f g m).map VC)) (hr' : Rd w B' A' (ks.map VB)) :
    Calls Try.prog 29 #[.slice A m cap, .slice A' n cap'] w fun e w' => (∃ P Q, e = .returned (.tuple #[.complex .f64 P Q, .int .i64 (Sp.cs (fun _ => 1) (fun i => ks.getD i false && decide (i < m)) n)]) ∧
      Fl.IsN P (Sp.cs f (fun i => ks.getD i false && decide (i < m)) n) ∧ Fl.IsN Q (Sp.cs g (fun i => ks.getD i false && decide (i < m)) n)) ∧ ∃ k, w' = w.drewN k := by
  have hK : ∀ i, (ks.getD i false && decide (i < m)) = true → i < m := fun i h => by simp at h; exact h.2
  have HB1 := Lib.hid (Sp.cs_le f _ m 4294967296 (by decide) hK hf)
  have HB2 := Lib.hid (Sp.cs_le g _ m 4294967296 (by decide) hK hg)
  have HB3 := Lib.hid (Sp.cs_le (fun _ => 1) _ m 1 (by decide) hK (fun _ => by decide))
  have HK := Lib.hid (fun i => show (ks.getD i false && decide (i < m)) = (fun i => ks.getD i false && decide (i < m)) i from rfl)
  generalize (fun i => ks.getD i false && decide (i < m)) = K at *
  have Hn := Lib.hid hn; have Hr := Lib.hid hr; have Hr' := Lib.hid hr'; have Hf := Lib.hid hf; have Hg := Lib.hid hg
  clear hn hr hr' hK hf hg
  go_enter Try.func29, Try.ntmps29
  go_wp2_with fail
  go_loopw [6, 7, 8, 13] (fun x y c i wr => ∃ (a P Q : Nat) (C : Int), i = .int .i64 (a : Int) ∧ a ≤ n ∧ x = .float .f64 P ∧ y = .float .f64 Q ∧ c = .int .i64 C ∧ C = Sp.cs (fun _ => 1) K a ∧ Fl.IsN P (Sp.cs f K a) ∧ Fl.IsN Q (Sp.cs g K a) ∧ ∃ k, wr = w.drewN k) (fun _ _ _ i _ => n - (intOf i).toNat)
  case atStart => exact ⟨0, 0, 0, 0, rfl, by omega, rfl, rfl, rfl, rfl, zero_n, zero_n, 0, rfl⟩
  case round =>
    obtain ⟨a, P, Q, C, rfl, ha, rfl, rfl, rfl, hC, hP, hQ, hd⟩ := hrel
    have HC := Lib.hid hC; have HP := Lib.hid hP; have HQ := Lib.hid hQ; have Hd := Lib.hid hd
    have cb := HB3.out a
    rw [← hC] at cb
    have cb1 : -3000 ≤ C ∧ C ≤ 3000 := by omega
    clear hC hP hQ hd cb
    obtain ⟨cb1, cb2⟩ := cb1
    by_cases hlt : a < n
    · have q1 : (a : Int) < (n : Int) := by omega
      obtain ⟨z, hz⟩ : ∃ z, ks[a]? = some z := ⟨ks[a]'(by rw [← Hn.out]; omega), List.getElem?_eq_getElem _⟩
      obtain ⟨b, off, rfl, hb, hc1⟩ := rd_getb (w := wr) (by obtain ⟨d, rfl⟩ := Hd.out; exact Hr'.out) hz
      have hKa := HK.out a
      rw [show ks.getD a false = z by simp [List.getD, hz]] at hKa
      have HKa := Lib.hid hKa
      clear hz hKa
      have l0 : ∀ F : Nat → Int, K a = false → Sp.cs F K (a + 1) = Sp.cs F K a := fun F h => by show (if K a then _ else _) = _; rw [h]; rfl
      have l1 : ∀ F : Nat → Int, K a = true → Sp.cs F K (a + 1) = Sp.cs F K a + F a := fun F h => by show (if K a then _ else _) = _; rw [h]; rfl
      have L0 := Lib.hid l0; have L1 := Lib.hid l1
      clear l0 l1
      cases z with
      | false =>
        have k0 : K a = false := by rw [← HKa.out]; rfl
        have K0 := Lib.hid k0
        clear k0
        go_wp2_with fail
        exact ⟨⟨a + 1, P, Q, C, by congr 1, by omega, rfl, rfl, rfl, by rw [L0.out _ K0.out]; exact HC.out, by rw [L0.out _ K0.out]; exact HP.out, by rw [L0.out _ K0.out]; exact HQ.out, Hd.out⟩, by simp [intOf]; omega⟩
      | true =>
        by_cases hlm : a < m
        · have k0 : K a = true := by rw [← HKa.out]; simp [hlm]
          have q2 : (a : Int) < (m : Int) := by omega
          obtain ⟨b2, off2, rfl, hb2, hc2⟩ := rd_getc (w := wr) (by obtain ⟨d, rfl⟩ := Hd.out; exact Hr.out) (Sp.cl_get f g m a hlm)
          have m1 := HB1.out (a + 1); have m2 := HB2.out (a + 1)
          rw [L1.out _ k0] at m1 m2
          have f1 := Hf.out a; have f2 := Hg.out a
          obtain ⟨P', p1, p2⟩ := add_n HP.out (fv_n (f a) (by omega)) (by omega)
          obtain ⟨Q', q3, q4⟩ := add_n HQ.out (fv_n (g a) (by omega)) (by omega)
          have g1 := fun w => run_float_arith (P := Try.prog) w .add 32 .f64 _ _ _ p1
          have g2 := fun w => run_float_arith (P := Try.prog) w .add 32 .f64 _ _ _ q3
          have K0 := Lib.hid k0; have P2 := Lib.hid p2; have Q2 := Lib.hid q4
          clear k0 p1 p2 q3 q4 f1 f2 m1 m2
          go_wp2_with fail
          have Hd2 := Lib.hid (fun q => show ∃ k, wr.drewN q = w.drewN k by obtain ⟨d, rfl⟩ := Hd.out; exact ⟨_, World.drewN_drewN _ _ _⟩)
          go_big_quiet (fail)
          go_wp2_with fail
          exact ⟨⟨a + 1, P', Q', C + 1, by congr 1, by omega, rfl, rfl, rfl, by rw [L1.out _ K0.out, HC.out], by rw [L1.out _ K0.out]; exact P2.out, by rw [L1.out _ K0.out]; exact Q2.out, Hd2.out _⟩, by simp [intOf]; omega⟩
        · have k0 : K a = false := by rw [← HKa.out]; simp [hlm]
          have K0 := Lib.hid k0
          clear k0
          go_wp2_with fail
          exact ⟨⟨a + 1, P, Q, C, by congr 1, by omega, rfl, rfl, rfl, by rw [L0.out _ K0.out]; exact HC.out, by rw [L0.out _ K0.out]; exact HP.out, by rw [L0.out _ K0.out]; exact HQ.out, Hd.out⟩, by simp [intOf]; omega⟩
    · obtain rfl : a = n := by omega
      go_wp2_with fail
      go_ret2
      refine ⟨⟨P, Q, ?_, HP.out, HQ.out⟩, Hd.out⟩
      rw [← HC.out]; rfl
end Go.Proofs.Ytjbidjidfkkikaa
