/- from chapter 24: what is wanted here -/
import Derived.Test.YtmeoafodcniliaaGreatDoorInts
import Derived.Test.YtmeoafodcniliaaGreatDoorFlM
import Derived.WalkLawsBesides
import Derived.BigRegion
import Derived.Laws.OwnMore
import Derived.Test.YtmeoafodcniliaaGreatDoorRows
namespace Go.Proofs.YtmeoafodcniliaaGreatDoor
open Go.RowKit
set_option linter.unusedSimpArgs false
set_option linter.unusedVariables false
set_option maxRecDepth 20000
namespace Sp
/-- The square root, rounded down. -/
def isq : Nat → Nat
  | 0 => 0
  | n + 1 => if (isq n + 1) * (isq n + 1) ≤ n + 1 then isq n + 1 else isq n
theorem isq_spec : ∀ n, isq n * isq n ≤ n ∧ n < (isq n + 1) * (isq n + 1)
  | 0 => by decide
  | n + 1 => by
    have ih := isq_spec n
    unfold isq
    split
    · rename_i h
      refine ⟨h, ?_⟩
      have : (isq n + 1 + 1) * (isq n + 1 + 1) = (isq n + 1) * (isq n + 1) + 2 * (isq n + 1) + 1 := by simp only [Nat.add_mul, Nat.mul_add]; omega
      omega
    · rename_i h
      exact ⟨by omega, by omega⟩
theorem isq_eq {n r : Nat} (h1 : r * r ≤ n) (h2 : n < (r + 1) * (r + 1)) : isq n = r := by
  obtain ⟨g1, g2⟩ := isq_spec n
  rcases Nat.lt_trichotomy (isq n) r with h | h | h
  · have := Nat.mul_le_mul (show isq n + 1 ≤ r by omega) (show isq n + 1 ≤ r by omega); omega
  · exact h
  · have := Nat.mul_le_mul (show r + 1 ≤ isq n by omega) (show r + 1 ≤ isq n by omega); omega
/-- (x, y) turned to the left so many times. -/
def tn (side : Nat) (x y : Int) : Int × Int := match side with | 0 => (x, y) | 1 => (-y, x) | 2 => (-x, -y) | _ => (y, -x)
def ring (i : Nat) : Nat := (isq i + 1) / 2
def spot (i : Nat) : Int × Int := if i = 0 then (0, 0) else tn ((i - (2 * ring i - 1) * (2 * ring i - 1)) / (2 * ring i)) (ring i) (((i - (2 * ring i - 1) * (2 * ring i - 1)) % (2 * ring i) : Nat) + 1 - (ring i : Int))
theorem odd_sq (r : Nat) (h : 1 ≤ r) : (2 * r - 1) * (2 * r - 1) + 4 * r = 4 * (r * r) + 1 := by
  obtain ⟨k, rfl⟩ : ∃ k, r = k + 1 := ⟨r - 1, by omega⟩
  rw [show 2 * (k + 1) - 1 = 2 * k + 1 by omega]
  simp only [Nat.add_mul, Nat.mul_add, Nat.mul_assoc, Nat.mul_left_comm k 2 k]
  omega
theorem next_sq (r : Nat) : (2 * r + 1) * (2 * r + 1) = 4 * (r * r) + 4 * r + 1 := by
  simp only [Nat.add_mul, Nat.mul_add, Nat.mul_assoc, Nat.mul_left_comm r 2 r]; omega
/-- The ring of a step, from where it begins. -/
theorem ring_eq {i r : Nat} (hr : 1 ≤ r) (h1 : (2 * r - 1) * (2 * r - 1) ≤ i) (h2 : i < (2 * r + 1) * (2 * r + 1)) : ring i = r := by
  unfold ring
  rcases Nat.lt_or_ge i ((2 * r) * (2 * r)) with h | h
  · rw [isq_eq h1 (by rw [show 2 * r - 1 + 1 = 2 * r by omega]; exact h)]; omega
  · rw [isq_eq h h2]; omega
theorem ring_pos {i : Nat} (h : i ≠ 0) : 1 ≤ ring i := by
  have : isq i ≠ 0 := fun h0 => by have := (isq_spec i).2; rw [h0] at this; omega
  unfold ring; omega
theorem ring_spec {i : Nat} (h : i ≠ 0) : (2 * ring i - 1) * (2 * ring i - 1) ≤ i ∧ i < (2 * ring i + 1) * (2 * ring i + 1) := by
  obtain ⟨g1, g2⟩ := isq_spec i
  have hp := ring_pos h
  have e : isq i = 2 * ring i - 1 ∨ isq i = 2 * ring i := by unfold ring at hp ⊢; omega
  rcases e with e | e
  · rw [e] at g1 g2
    exact ⟨g1, Nat.lt_of_lt_of_le g2 (Nat.mul_le_mul (by omega) (by omega))⟩
  · rw [e] at g1 g2
    exact ⟨Nat.le_trans (Nat.mul_le_mul (by omega) (by omega)) g1, g2⟩
/-- A spot, told by its ring, its side, and how far along. -/
theorem spot_eq {i r side al : Nat} (hr : 1 ≤ r) (hs : side < 4) (ha : al < 2 * r) (h : i = (2 * r - 1) * (2 * r - 1) + 2 * r * side + al) : spot i = tn side r ((al : Int) + 1 - r) := by
  have o := odd_sq r hr
  have e := next_sq r
  have hm : 2 * r * side ≤ 2 * r * 3 := Nat.mul_le_mul_left _ (by omega)
  have hring : ring i = r := ring_eq hr (by omega) (by omega)
  have h0 : i ≠ 0 := by
    have : 1 ≤ (2 * r - 1) * (2 * r - 1) := Nat.mul_le_mul (show 1 ≤ 2 * r - 1 by omega) (show 1 ≤ 2 * r - 1 by omega)
    omega
  have hat : i - (2 * r - 1) * (2 * r - 1) = al + 2 * r * side := by omega
  unfold spot
  rw [if_neg h0, hring, hat, Nat.add_mul_div_left _ _ (by omega), Nat.div_eq_of_lt ha, Nat.zero_add, Nat.add_mul_mod_self_left, Nat.mod_eq_of_lt ha]
/-- Each step but the first has a ring, a side, and a place along it. -/
theorem spot_parts {i : Nat} (h : i ≠ 0) : ∃ r side al : Nat, 1 ≤ r ∧ side < 4 ∧ al < 2 * r ∧ i = (2 * r - 1) * (2 * r - 1) + 2 * r * side + al ∧ r = ring i ∧ side = (i - (2 * ring i - 1) * (2 * ring i - 1)) / (2 * ring i) ∧ al = (i - (2 * ring i - 1) * (2 * ring i - 1)) % (2 * ring i) := by
  obtain ⟨g1, g2⟩ := ring_spec h
  have hp := ring_pos h
  have o := odd_sq (ring i) hp
  have e := next_sq (ring i)
  generalize ring i = r at *
  have hlt : i - (2 * r - 1) * (2 * r - 1) < 4 * (2 * r) := by omega
  have hdm := Nat.div_add_mod (i - (2 * r - 1) * (2 * r - 1)) (2 * r)
  refine ⟨r, _, _, hp, ?_, Nat.mod_lt _ (by omega), by omega, rfl, rfl, rfl⟩
  exact (Nat.div_lt_iff_lt_mul (by omega)).2 hlt
/-- (x, y) turned to the right so many times. -/
def tr (side : Nat) (x y : Int) : Int × Int := match side with | 0 => (x, y) | 1 => (y, -x) | 2 => (-x, -y) | _ => (-y, x)
theorem tr_succ (k : Nat) (x y : Int) (h : k < 3) : tr (k + 1) x y = ((tr k x y).2, -(tr k x y).1) := by
  rcases (by omega : k = 0 ∨ k = 1 ∨ k = 2) with rfl | rfl | rfl <;> simp [tr]
theorem tr_small (k : Nat) (x y : Int) (B : Nat) (hx : x.natAbs ≤ B) (hy : y.natAbs ≤ B) : (tr k x y).1.natAbs ≤ B ∧ (tr k x y).2.natAbs ≤ B := by
  unfold tr; split <;> simp only <;> omega
theorem tn_tr (k : Nat) (x y : Int) (h : k < 4) : tn k (tr k x y).1 (tr k x y).2 = (x, y) := by
  rcases (by omega : k = 0 ∨ k = 1 ∨ k = 2 ∨ k = 3) with rfl | rfl | rfl | rfl <;> simp [tn, tr]
/-- Stands (x, y) on side s of the ring r? -/
def hit (r s : Nat) (x y : Int) : Prop := (tr s x y).1 = r ∧ -(r : Int) < (tr s x y).2
/-- i is the step at (x, y). -/
def IdxIs (i : Nat) (x y : Int) : Prop := ∃ r s al : Nat, 1 ≤ r ∧ s < 4 ∧ al < 2 * r ∧ i = (2 * r - 1) * (2 * r - 1) + 2 * r * s + al ∧ (x, y) = tn s r ((al : Int) + 1 - r)
theorem spot_idx {i : Nat} (h : i ≠ 0) : IdxIs i (spot i).1 (spot i).2 := by
  obtain ⟨r, s, al, h1, h2, h3, h4, _⟩ := spot_parts h
  exact ⟨r, s, al, h1, h2, h3, h4, by rw [spot_eq h1 h2 h3 h4]⟩
theorem hit_idx {r s : Nat} {x y : Int} (hr : 1 ≤ r) (hs : s < 4) (hx : x.natAbs ≤ r) (hy : y.natAbs ≤ r) (h : hit r s x y) : ∃ al : Nat, al < 2 * r ∧ (al : Int) = (tr s x y).2 - 1 + r ∧ IdxIs ((2 * r - 1) * (2 * r - 1) + 2 * r * s + al) x y := by
  obtain ⟨h1, h2⟩ := h
  have h3 := tr_small s x y r hx hy
  refine ⟨((tr s x y).2 - 1 + r).toNat, by omega, by omega, r, s, _, hr, hs, by omega, rfl, ?_⟩
  rw [show ((((tr s x y).2 - 1 + r).toNat : Nat) : Int) + 1 - r = (tr s x y).2 by omega, ← h1, tn_tr s x y hs]
theorem some_hit {r : Nat} {x y : Int} (hr : 1 ≤ r) (h : max (x.natAbs : Int) (y.natAbs : Int) = r) : hit r 0 x y ∨ hit r 1 x y ∨ hit r 2 x y ∨ hit r 3 x y := by
  unfold hit tr; simp only; omega
theorem idx_ring {i : Nat} {x y : Int} (h : IdxIs i x y) : ∃ r : Nat, max (x.natAbs : Int) (y.natAbs : Int) = r ∧ 1 ≤ r ∧ (2 * r - 1) * (2 * r - 1) ≤ i ∧ i < (2 * r + 1) * (2 * r + 1) := by
  obtain ⟨r, s, al, h1, h2, h3, h4, h5⟩ := h
  have o := odd_sq r h1
  have n := next_sq r
  have hm : 2 * r * s ≤ 2 * r * 3 := Nat.mul_le_mul_left _ (by omega)
  refine ⟨r, ?_, h1, by omega, by omega⟩
  have e1 : x = (tn s r ((al : Int) + 1 - r)).1 := by rw [← h5]
  have e2 : y = (tn s r ((al : Int) + 1 - r)).2 := by rw [← h5]
  rcases (by omega : s = 0 ∨ s = 1 ∨ s = 2 ∨ s = 3) with rfl | rfl | rfl | rfl <;> simp only [tn] at e1 e2 <;> omega
/-- There is one step at each place. -/
theorem idx_one {i j : Nat} {x y : Int} (h : IdxIs i x y) (k : IdxIs j x y) : i = j := by
  obtain ⟨r, h1, h2, _, _⟩ := idx_ring h
  obtain ⟨r', k1, k2, _, _⟩ := idx_ring k
  obtain ⟨ra, s, al, a1, a2, a3, a4, a5⟩ := h
  obtain ⟨rb, t, be, b1, b2, b3, b4, b5⟩ := k
  have e1 : x = (tn s ra ((al : Int) + 1 - ra)).1 := by rw [← a5]
  have e2 : y = (tn s ra ((al : Int) + 1 - ra)).2 := by rw [← a5]
  have e3 : x = (tn t rb ((be : Int) + 1 - rb)).1 := by rw [← b5]
  have e4 : y = (tn t rb ((be : Int) + 1 - rb)).2 := by rw [← b5]
  have key : ra = rb ∧ s = t ∧ al = be := by
    rcases (by omega : s = 0 ∨ s = 1 ∨ s = 2 ∨ s = 3) with rfl | rfl | rfl | rfl <;> rcases (by omega : t = 0 ∨ t = 1 ∨ t = 2 ∨ t = 3) with rfl | rfl | rfl | rfl <;> simp only [tn] at e1 e2 e3 e4 <;> omega
  obtain ⟨rfl, rfl, rfl⟩ := key
  rw [a4, b4]
end Sp
theorem ext_sqrt (x r : Nat) (h : Ieee.double.sqrt x = some r) (w : World) : (callFunc 258 #[.float .f64 x]).run Tryz.prog w = .ok (.value (.float .f64 r)) w := by
  rw [run_callFunc_extern Tryz.func258 (by kernel_rfl) (by kernel_rfl) (by kernel_rfl) (by kernel_rfl)]
  have : (Extern.MathSqrt.sqrt #[.float .f64 x]).run Tryz.prog w = .ok (.float .f64 r) w := by
    change Sem.run Tryz.prog (match FloatKind.f64.format.sqrt x with | some r => (pure (Value.float .f64 r) : Sem Value) | none => (do pure (.float .f64 (← choose (.nanBits .f64 x x))))) w = _
    rw [show FloatKind.f64.format.sqrt x = some r from h]
    rfl
  change ((Extern.MathSqrt.sqrt #[.float .f64 x]).run Tryz.prog w).andThen _ = _
  rw [this]; rfl
theorem Sqrt_calls (x r : Nat) (h : Ieee.double.sqrt x = some r) (w : World) : Calls Tryz.prog 241 #[.float .f64 x] w fun e w' => e = .returned (.float .f64 r) ∧ w = w' := by
  have hx := ext_sqrt x r h
  clear h
  go_enter Tryz.func241, Tryz.ntmps241
  go_wp2_with fail
  go_ret
  exact ⟨rfl, rfl⟩
theorem conv_fi (b : Nat) (n : Int) (h : floatToIntVal .f64 b .i64 = some n) (w : World) : (convert 174 3 (.float .f64 b)).run Tryz.prog w = .ok (.int .i64 n) w :=
  run_convert_float_int w _ _ .f64 .i64 b n (by kernel_rfl) (by kernel_rfl) h
theorem conv_if (n : Int) (w : World) : (convert 3 174 (.int .i64 n)).run Tryz.prog w = .ok (.float .f64 (floatOfInt .f64 n)) w :=
  run_convert_int_float w _ _ .i64 .f64 n (by kernel_rfl) (by kernel_rfl)
set_option maxHeartbeats 1000000 in
theorem root_calls (n : Nat) (hn : n ≤ 9223372036854775807) (w : World) : Calls Tryz.prog 180 #[.int .i64 (n : Int)] w fun e w' => e = .returned (.int .i64 (Sp.isq n : Nat)) ∧ w = w' := by
  obtain ⟨r, hr, v, hv, hv0, hv1⟩ := Fl.sqrt_int (n : Int) (by omega) (by omega)
  have hc := conv_fi r v hv
  have hi := conv_if (n : Int)
  have HR := Lib.hid hr
  generalize floatOfInt .f64 (n : Int) = x at *
  clear hr hv
  go_enter Tryz.func180, Tryz.ntmps180
  go_wp2_with fail
  refine (Sqrt_calls x r HR.out w).mono ?_
  rintro e w' ⟨rfl, rfl⟩
  obtain ⟨u, rfl⟩ : ∃ u : Nat, v = (u : Int) := ⟨v.toNat, by omega⟩
  by_cases hle : (u : Int) ≤ 3037000499
  · go_wp2_with fail
    go_loopw [3] (fun r wr => ∃ x : Nat, r = .int .i64 (x : Int) ∧ x ≤ 3037000499 ∧ w = wr) (fun r _ => (intOf r).toNat)
    case atStart => exact ⟨u, rfl, by omega, rfl⟩
    case round =>
      obtain ⟨y, rfl, hy, rfl⟩ := hrel
      have hsq : y * y ≤ 3037000499 * 3037000499 := Nat.mul_le_mul hy hy
      obtain ⟨q, hq, hq2⟩ : ∃ q : Nat, (y : Int) * (y : Int) = (q : Int) ∧ y * y = q := ⟨y * y, by push_cast; rfl, rfl⟩
      have Hq2 := Lib.hid hq2
      clear hq2
      have hqb : q ≤ 9223372030926249001 := by rw [← Hq2.out]; omega
      by_cases h1 : (n : Int) < (q : Int)
      · have hy1 : 1 ≤ y := by
          rcases Nat.eq_zero_or_pos y with h | h
          · have := Hq2.out; rw [h] at this; omega
          · exact h
        have hsub : (y : Int) - 1 = ((y - 1 : Nat) : Int) := by omega
        clear hsq
        go_wp2_with fail
        exact ⟨⟨y - 1, rfl, by omega, trivial⟩, by simp [intOf]; omega⟩
      · have Hle : Hid (y * y ≤ n) := Lib.hid (by rw [Hq2.out]; omega)
        clear hsq
        go_wp2_with fail
        go_loopw [3] (fun r wr => ∃ z : Nat, r = .int .i64 (z : Int) ∧ z ≤ 3037000499 ∧ z * z ≤ n ∧ w = wr) (fun r _ => 3037000499 - (intOf r).toNat)
        case atStart => exact ⟨y, rfl, hy, Hle.out, rfl⟩
        case round =>
          obtain ⟨z, rfl, hz, hzn, rfl⟩ := hrel
          have Hzn := Lib.hid hzn
          clear hzn
          by_cases h2 : z < 3037000499
          · have l2 : (z : Int) < 3037000499 := by omega
            have hsq : (z + 1) * (z + 1) ≤ 3037000499 * 3037000499 := Nat.mul_le_mul h2 h2
            obtain ⟨p, hp, hp2⟩ : ∃ p : Nat, ((z : Int) + 1) * ((z : Int) + 1) = (p : Int) ∧ (z + 1) * (z + 1) = p := ⟨(z + 1) * (z + 1), by push_cast; rfl, rfl⟩
            have Hp2 := Lib.hid hp2
            clear hp2
            have hpb : p ≤ 9223372030926249001 := by rw [← Hp2.out]; omega
            clear hsq
            by_cases h3 : (p : Int) ≤ (n : Int)
            · go_wp2_with fail
              exact ⟨⟨z + 1, by congr 1, by omega, by rw [Hp2.out]; omega, trivial⟩, by simp [intOf]; omega⟩
            · have He : Hid (Sp.isq n = z) := Lib.hid (Sp.isq_eq Hzn.out (by rw [Hp2.out]; omega))
              go_wp2_with fail
              go_ret
              exact ⟨by rw [He.out]; rfl, rfl⟩
          · have l2 : ¬ (z : Int) < 3037000499 := by omega
            have He : Hid (Sp.isq n = z) := Lib.hid (Sp.isq_eq Hzn.out (by have := Nat.mul_le_mul (show 3037000500 ≤ z + 1 by omega) (show 3037000500 ≤ z + 1 by omega); omega))
            go_wp2_with fail
            go_ret
            exact ⟨by rw [He.out]; rfl, rfl⟩
  · go_wp2_with fail
    go_loopw [3] (fun r wr => ∃ x : Nat, r = .int .i64 (x : Int) ∧ x ≤ 3037000499 ∧ w = wr) (fun r _ => (intOf r).toNat)
    case atStart => exact ⟨3037000499, rfl, by omega, rfl⟩
    case round =>
      obtain ⟨y, rfl, hy, rfl⟩ := hrel
      have hsq : y * y ≤ 3037000499 * 3037000499 := Nat.mul_le_mul hy hy
      obtain ⟨q, hq, hq2⟩ : ∃ q : Nat, (y : Int) * (y : Int) = (q : Int) ∧ y * y = q := ⟨y * y, by push_cast; rfl, rfl⟩
      have Hq2 := Lib.hid hq2
      clear hq2
      have hqb : q ≤ 9223372030926249001 := by rw [← Hq2.out]; omega
      by_cases h1 : (n : Int) < (q : Int)
      · have hy1 : 1 ≤ y := by
          rcases Nat.eq_zero_or_pos y with h | h
          · have := Hq2.out; rw [h] at this; omega
          · exact h
        have hsub : (y : Int) - 1 = ((y - 1 : Nat) : Int) := by omega
        clear hsq
        go_wp2_with fail
        exact ⟨⟨y - 1, rfl, by omega, trivial⟩, by simp [intOf]; omega⟩
      · have Hle : Hid (y * y ≤ n) := Lib.hid (by rw [Hq2.out]; omega)
        clear hsq
        go_wp2_with fail
        go_loopw [3] (fun r wr => ∃ z : Nat, r = .int .i64 (z : Int) ∧ z ≤ 3037000499 ∧ z * z ≤ n ∧ w = wr) (fun r _ => 3037000499 - (intOf r).toNat)
        case atStart => exact ⟨y, rfl, hy, Hle.out, rfl⟩
        case round =>
          obtain ⟨z, rfl, hz, hzn, rfl⟩ := hrel
          have Hzn := Lib.hid hzn
          clear hzn
          by_cases h2 : z < 3037000499
          · have l2 : (z : Int) < 3037000499 := by omega
            have hsq : (z + 1) * (z + 1) ≤ 3037000499 * 3037000499 := Nat.mul_le_mul h2 h2
            obtain ⟨p, hp, hp2⟩ : ∃ p : Nat, ((z : Int) + 1) * ((z : Int) + 1) = (p : Int) ∧ (z + 1) * (z + 1) = p := ⟨(z + 1) * (z + 1), by push_cast; rfl, rfl⟩
            have Hp2 := Lib.hid hp2
            clear hp2
            have hpb : p ≤ 9223372030926249001 := by rw [← Hp2.out]; omega
            clear hsq
            by_cases h3 : (p : Int) ≤ (n : Int)
            · go_wp2_with fail
              exact ⟨⟨z + 1, by congr 1, by omega, by rw [Hp2.out]; omega, trivial⟩, by simp [intOf]; omega⟩
            · have He : Hid (Sp.isq n = z) := Lib.hid (Sp.isq_eq Hzn.out (by rw [Hp2.out]; omega))
              go_wp2_with fail
              go_ret
              exact ⟨by rw [He.out]; rfl, rfl⟩
          · have l2 : ¬ (z : Int) < 3037000499 := by omega
            have He : Hid (Sp.isq n = z) := Lib.hid (Sp.isq_eq Hzn.out (by have := Nat.mul_le_mul (show 3037000500 ≤ z + 1 by omega) (show 3037000500 ≤ z + 1 by omega); omega))
            go_wp2_with fail
            go_ret
            exact ⟨by rw [He.out]; rfl, rfl⟩
set_option exponentiation.threshold 2000
/-- The bits of a whole number. -/
abbrev fv (v : Int) : Nat := floatOfInt .f64 v
theorem fv_n (v : Int) (h : v.natAbs < 2 ^ 53) : Fl.IsN (fv v) v := (Fl.IsI.ofInt v h).1.n h
theorem one_n : Fl.IsN 4607182418800017408 1 := ⟨false, 52, by decide, by decide, by decide⟩
theorem zero_n : Fl.IsN 0 0 := ⟨false, 1074, by rw [Int.natAbs_zero, Nat.zero_mul]; decide, by decide, by decide⟩
theorem canon {r : Nat} {v : Int} (h : Fl.IsI r v) (h0 : v = 0 → r = 0) (hv : v.natAbs < 2 ^ 53) : r = fv v := by
  by_cases hz : v = 0
  · rw [h0 hz, hz]; rfl
  · obtain ⟨s, h⟩ := h
    obtain ⟨⟨t, h2⟩, _⟩ := Fl.IsI.ofInt v hv
    rw [if_neg hz] at h h2
    rw [h, ← h2]
theorem add_zero {x : Nat} {v : Int} (h : Fl.IsN x v) (hv : v.natAbs < 2 ^ 53) : Ieee.double.add x 0 = some (fv v) := by
  obtain ⟨r, h1, h2, h3⟩ := h.add zero_n (by rw [Int.add_zero]; exact hv)
  rw [h1, canon (v := v) (by rw [Int.add_zero] at h2; exact h2) (fun h => h3 (by rw [h]; rfl) (Or.inr rfl)) hv]
theorem mul_i {p q : Nat} {u v : Int} (hp : Fl.IsN p u) (hq : Fl.IsN q v) (hu : u.natAbs < 2 ^ 53) (hv : v.natAbs < 2 ^ 53) : ∃ re im, cMulBits p q 0 4607182418800017408 = some (re, im) ∧ Fl.IsN re (-v) ∧ Fl.IsN im u := by
  obtain ⟨ac, e1, n1⟩ := hp.mul zero_n (by rw [Int.mul_zero]; decide)
  obtain ⟨bd, e2, n2⟩ := hq.mul one_n (by rw [Int.mul_one]; exact hv)
  obtain ⟨re, e3, n3⟩ := (n1.n (by rw [Int.mul_zero]; decide)).sub (n2.n (by rw [Int.mul_one]; exact hv)) (by rw [Int.mul_zero, Int.mul_one]; omega)
  obtain ⟨ad, e4, n4⟩ := hp.mul one_n (by rw [Int.mul_one]; exact hu)
  obtain ⟨bc, e5, n5⟩ := hq.mul zero_n (by rw [Int.mul_zero]; decide)
  obtain ⟨im, e6, n6, _⟩ := (n4.n (by rw [Int.mul_one]; exact hu)).add (n5.n (by rw [Int.mul_zero]; decide)) (by rw [Int.mul_zero, Int.mul_one]; omega)
  refine ⟨re, im, ?_, ?_, ?_⟩
  · unfold cMulBits floatBits
    show ((Ieee.double.mul p 0).bind fun ac => (Ieee.double.mul q 4607182418800017408).bind fun bd => (Ieee.double.sub ac bd).bind fun re => (Ieee.double.mul p 4607182418800017408).bind fun ad => (Ieee.double.mul q 0).bind fun bc => (Ieee.double.add ad bc).bind fun im => some (re, im)) = _
    rw [e1]; simp only [Option.bind_some]; rw [e2]; simp only [Option.bind_some]; rw [e3]; simp only [Option.bind_some]; rw [e4]; simp only [Option.bind_some]; rw [e5]; simp only [Option.bind_some]; rw [e6]; rfl
  · have := n3.n (by rw [Int.mul_zero, Int.mul_one]; omega)
    rwa [Int.mul_zero, Int.mul_one, Int.zero_sub] at this
  · have := n6.n (by rw [Int.mul_zero, Int.mul_one]; omega)
    rwa [Int.mul_zero, Int.mul_one, Int.add_zero] at this
theorem place_calls (x y a b : Nat) (h1 : Ieee.double.add x 0 = some a) (h2 : Ieee.double.add y 0 = some b) (w : World) : Calls Tryz.prog 181 #[.float .f64 x, .float .f64 y] w fun e w' => e = .returned (.complex .f64 a b) ∧ w = w' := by
  have g1 := fun w => run_float_arith (P := Tryz.prog) w .add 174 .f64 x 0 a h1
  have g2 := fun w => run_float_arith (P := Tryz.prog) w .add 174 .f64 y 0 b h2
  clear h1 h2
  go_enter Tryz.func181, Tryz.ntmps181
  go_wp2_with fail
  go_ret
  exact ⟨rfl, rfl⟩
theorem tn_succ (k : Nat) (x y : Int) (h : k < 3) : Sp.tn (k + 1) x y = (-(Sp.tn k x y).2, (Sp.tn k x y).1) := by
  rcases (by omega : k = 0 ∨ k = 1 ∨ k = 2) with rfl | rfl | rfl <;> simp [Sp.tn]
theorem tn_small (k : Nat) (x y : Int) (B : Nat) (hx : x.natAbs < B) (hy : y.natAbs < B) : (Sp.tn k x y).1.natAbs < B ∧ (Sp.tn k x y).2.natAbs < B := by
  unfold Sp.tn; split <;> simp only <;> omega
set_option maxHeartbeats 2000000 in
theorem Spot_calls (i : Nat) (hi : i < 16777216) (w : World) : Calls Tryz.prog 94 #[.int .i64 (i : Int)] w fun e w' => e = .returned (.tuple #[.complex .f64 (fv (Sp.spot i).1) (fv (Sp.spot i).2), .bool true]) ∧ ∃ k, w' = w.drewN k := by
  go_enter Tryz.func94, Tryz.ntmps94
  rcases Nat.eq_zero_or_pos i with hi0 | hi0
  · subst hi0
    go_wp2_with fail
    go_ret2
    exact ⟨rfl, 0, rfl⟩
  · have h1 : ((i : Int) == 0) = false := by rw [beq_eq_false_iff_ne]; omega
    have h2 : ¬ (16777216 : Int) ≤ (i : Int) := by omega
    obtain ⟨r, side, al, hr, hs, ha, hii, er, es, ea⟩ := Sp.spot_parts (i := i) (by omega)
    have Hsp := Lib.hid (Sp.spot_eq hr hs ha hii)
    have Her := Lib.hid er
    have hrb : r ≤ 2049 := by
      rcases Nat.lt_or_ge r 2050 with h | h
      · omega
      · have := Nat.mul_le_mul (show 4099 ≤ 2 * r - 1 by omega) (show 4099 ≤ 2 * r - 1 by omega); omega
    have hm : (((Sp.isq i : Nat) : Int) + 1) / 2 = (r : Int) := by rw [er]; unfold Sp.ring; omega
    have hisq : Sp.isq i ≤ 4098 := by have := er; unfold Sp.ring at this; omega
    have Hii := Lib.hid hii
    obtain ⟨R, hR⟩ : ∃ R : Nat, R = 2 * r := ⟨_, rfl⟩
    obtain ⟨O, hO, hO2⟩ : ∃ O : Nat, ((R : Int) - 1) * ((R : Int) - 1) = (O : Int) ∧ (2 * r - 1) * (2 * r - 1) = O := ⟨(2 * r - 1) * (2 * r - 1), by rw [show (R : Int) - 1 = ((2 * r - 1 : Nat) : Int) by omega]; push_cast; rfl, rfl⟩
    obtain ⟨A, hA⟩ : ∃ A : Nat, A = R * side + al := ⟨_, rfl⟩
    rw [hO2, ← hR, Nat.add_assoc, ← hA] at hii
    have hOb : O ≤ 16777216 := by omega
    have hAi : (i : Int) - (O : Int) = (A : Int) := by omega
    have hR1 : 2 * (r : Int) = (R : Int) := by omega
    have hd : (A : Int) / (R : Int) = (side : Int) := by
      have : A / R = side := by rw [hA, Nat.add_comm, Nat.add_mul_div_left _ _ (by omega), Nat.div_eq_of_lt (by omega), Nat.zero_add]
      rw [← this]; rfl
    have hmo : (A : Int) % (R : Int) = (al : Int) := by
      have : A % R = al := by rw [hA, Nat.add_comm, Nat.add_mul_mod_self_left, Nat.mod_eq_of_lt (by omega)]
      rw [← this]; rfl
    have q2 : ((R : Int) = 0) = False := by simp; omega
    have q3 : (A : Int).tdiv (R : Int) = (side : Int) := by rw [Int.tdiv_eq_ediv_of_nonneg (by omega)]; exact hd
    have q4 : (A : Int).tmod (R : Int) = (al : Int) := by rw [Int.tmod_eq_emod_of_nonneg (by omega)]; exact hmo
    have hRb : R ≤ 4098 := by omega
    clear er es ea hii hO2 hA hR
    go_wp2_with fail
    refine (root_calls i (by omega) w).mono ?_
    rintro e w' ⟨rfl, rfl⟩
    generalize Sp.isq i = rho at *
    go_wp2_with fail
    go_big_quiet (fail)
    go_wp2_with fail
    obtain ⟨y0, hy0⟩ : ∃ y0 : Int, (al : Int) + 1 - (r : Int) = y0 := ⟨_, rfl⟩
    have hyb : y0.natAbs < 2050 := by omega
    have hrb2 : ((r : Int)).natAbs < 2050 := by omega
    refine (place_calls _ _ _ _ (add_zero (fv_n (r : Int) (by omega)) (by omega)) (add_zero (fv_n ((al : Int) + 1 - (r : Int)) (by omega)) (by omega)) (w.drewN nq)).mono ?_
    rintro e w' ⟨rfl, rfl⟩
    rw [hy0] at Hsp
    rw [hy0]
    have Hn1 := Lib.hid (fv_n (r : Int) (by omega)); have Hn2 := Lib.hid (fv_n y0 (by omega))
    clear hO hAi hd hmo q3 q4 hm hR1 q2 hy0
    generalize (r : Int) = x0 at *
    generalize fv x0 = bx at *
    generalize fv y0 = bY at *
    go_wp2_with fail
    go_loopw [8, 47] (fun z k wr => ∃ (a p q : Nat), k = .int .i64 (a : Int) ∧ a ≤ side ∧ z = .complex .f64 p q ∧ Fl.IsN p (Sp.tn a x0 y0).1 ∧ Fl.IsN q (Sp.tn a x0 y0).2 ∧ w.drewN nq = wr) (fun _ k _ => side - (intOf k).toNat)
    case atStart => exact ⟨0, _, _, rfl, by omega, rfl, Hn1.out, Hn2.out, rfl⟩
    case round =>
      obtain ⟨a, p, q, rfl, ha2, rfl, hp, hq, rfl⟩ := hrel
      have hsm := tn_small a x0 y0 2050 hrb2 hyb
      by_cases hlt : a < side
      · have l1 : (a : Int) < (side : Int) := by omega
        obtain ⟨re, im, hmul, hre, him⟩ := mul_i hp hq (by omega) (by omega)
        have g := fun w => run_complex_mul (P := Tryz.prog) w 116 p q 0 4607182418800017408 re im hmul
        have Hre := Lib.hid hre; have Him := Lib.hid him
        have Ht := Lib.hid (tn_succ a x0 y0 (by omega))
        clear hp hq hmul hre him hsm
        go_wp2_with fail
        exact ⟨⟨a + 1, re, im, by congr 1, by omega, rfl, by rw [Ht.out]; exact Hre.out, by rw [Ht.out]; exact Him.out, trivial⟩, by simp [intOf]; omega⟩
      · obtain rfl : a = side := by omega
        rw [← Hsp.out] at hp hq hsm
        have Hp := Lib.hid hp; have Hq := Lib.hid hq
        clear hp hq
        go_wp2_with fail
        refine (place_calls _ _ _ _ (add_zero Hp.out (by omega)) (add_zero Hq.out (by omega)) (w.drewN nq)).mono ?_
        rintro e w' ⟨rfl, rfl⟩
        go_wp2_with fail
        go_ret2
        exact ⟨rfl, nq, rfl⟩
abbrev VC (p : Nat × Nat) : Value := .complex .f64 p.1 p.2
theorem rd_getc {w : World} {B : Nat} {A : Option Addr} {zs : List (Nat × Nat)} (h : Rd w B A (zs.map VC)) {k : Nat} {z : Nat × Nat} (hk : zs[k]? = some z) : ∃ b off, A = some ⟨b, off, none⟩ ∧ b < B ∧ w.cell? ⟨b, off + k, none⟩ = some (VC z) :=
  h k _ (by rw [List.getElem?_map, hk]; rfl)
/-- A place in memory. -/
def SpIs (w : World) (g : Nat) (p : Int × Int) : Prop := w.heap[g]? = some (.cells #[.int .i64 p.1, .int .i64 p.2] 119 (0, 0))
theorem SpIs.below {w w' : World} {g : Nat} {p : Int × Int} {C : Nat} (h : SpIs w g p) (hb : Below C w w') (hg : g < C) : SpIs w' g p := (hb.block g hg).trans h
theorem SpIs.s1 {w : World} {g : Nat} {p : Int × Int} (h : SpIs w g p) (y : Int) : SpIs (w.setCell ⟨g, 1, none⟩ (.int .i64 y)) g (p.1, y) := by
  unfold SpIs
  rw [heap_set h]; rfl
theorem ord_self {b : Nat} {v : Int} (h : Fl.IsN b v) : FloatKind.f64.format.order b b = some .eq := by
  have := h.order h
  rw [show compare v v = Ordering.eq by rw [show compare v v = compareOfLessAndEq v v from rfl]; unfold compareOfLessAndEq; rw [if_neg (by omega), if_pos rfl]] at this
  exact this
set_option exponentiation.threshold 2000
theorem ext_bits (b : Nat) (w : World) : (callFunc 261 #[.float .f64 b]).run Tryz.prog w = .ok (.value (.int .u64 (b : Int))) w := by
  rw [run_callFunc_extern (e := Extern.MathFloatBits.float64bits) Tryz.func261 (by kernel_rfl) (by kernel_rfl) (by kernel_rfl) (by kernel_rfl)]
  rfl
theorem ext_frombits (b : Nat) (w : World) : (callFunc 260 #[.int .u64 (b : Int)]).run Tryz.prog w = .ok (.value (.float .f64 b)) w := by
  rw [run_callFunc_extern (e := Extern.MathFloatBits.float64frombits) Tryz.func260 (by kernel_rfl) (by kernel_rfl) (by kernel_rfl) (by kernel_rfl)]
  rfl
theorem clear_sign (b : Nat) (h : b < 18446744073709551616) : bits .andNot .u64 (b : Int) 9223372036854775808 = ((b % 9223372036854775808 : Nat) : Int) := by
  have := u64_andNot_nat b 9223372036854775808 h (by decide)
  rw [show ((9223372036854775808 : Nat) : Int) = 9223372036854775808 from rfl] at this
  rw [this]
  rw [show 18446744073709551615 - 9223372036854775808 = 2 ^ 63 - 1 by decide, Nat.and_two_pow_sub_one_eq_mod]
theorem read_abs {b : Nat} {s : Bool} {m : Nat} {e : Int} (h : Ieee.double.read b = .number s m e) : Ieee.double.read (b % 9223372036854775808) = .number false m e := by
  unfold Ieee.Format.read at *
  rw [Fl.sw, Fl.bn, Fl.ir, Fl.lp] at *
  dsimp only at *
  rw [Nat.mod_mod, show (b % 9223372036854775808 / 9223372036854775808 % 2 == 1) = false by rw [beq_eq_false_iff_ne]; omega]
  generalize b % 9223372036854775808 = r at *
  split at h
  · rename_i h1; injection h with _ h2 h3; rw [if_pos h1, h2, h3]
  · rename_i h1
    split at h
    · rename_i h4; injection h with _ h2 h3; rw [if_neg h1, if_pos h4, h2, h3]
    · split at h <;> cases h
theorem abs_n {b : Nat} {v : Int} (h : Fl.IsN b v) : Fl.IsN (b % 9223372036854775808) (v.natAbs : Int) := by
  obtain ⟨s, k, h1, _, h3⟩ := h
  exact ⟨false, k, by rw [Int.natAbs_natCast]; exact read_abs h1, fun _ => (decide_eq_false (by omega)).symm, h3⟩
theorem Abs_calls (b : Nat) (h : b < 18446744073709551616) (w : World) : Calls Tryz.prog 243 #[.float .f64 b] w fun e w' => e = .returned (.float .f64 (b % 9223372036854775808)) ∧ w = w' := by
  have h1 := ext_bits b
  have h2 := ext_frombits (b % 9223372036854775808)
  have h3 := clear_sign b h
  generalize b % 9223372036854775808 = c at *
  go_enter Tryz.func243, Tryz.ntmps243
  go_wp2_with fail
  go_ret
  exact ⟨rfl, rfl⟩
/-- Trunc of a whole number. -/
theorem trunc_n {b : Nat} {v : Int} (h : Fl.IsN b v) (hv : v.natAbs < 2 ^ 53) : ∃ r, (∀ w, (callFunc 270 #[.float .f64 b]).run Tryz.prog w = .ok (.value (.float .f64 r)) w) ∧ Fl.IsN r v := by
  obtain ⟨s, k, h1, h2, h3⟩ := h
  have hc : Ieee.Toward.zero.cut s (v.natAbs * 2 ^ k) k = v.natAbs := by
    by_cases h0 : v = 0
    · subst h0; unfold Ieee.Toward.cut; simp
    · exact Fl.cut_exact _ _ _ _ (by omega)
  have hi : (Ieee.double.read b).integral .zero = .number s v.natAbs 0 := by
    rw [h1]; unfold Ieee.Datum.integral; dsimp only
    rw [show (-(k : Int)).toNat = 0 by omega, show (-(-(k : Int))).toNat = k by omega, Nat.shiftLeft_zero, hc]
  refine ⟨Ieee.double.write (.number s v.natAbs 0), fun w => ?_, ?_⟩
  · rw [run_callFunc_extern Tryz.func270 (by kernel_rfl) (by kernel_rfl) (by kernel_rfl) (by kernel_rfl)]
    have : (Extern.MathFloor.toIntegral "math.archTrunc" .zero #[.float .f64 b]).run Tryz.prog w = .ok (.float .f64 (Ieee.double.write (.number s v.natAbs 0))) w := by
      have hd : FloatKind.f64.decode b = .number s (v.natAbs * 2 ^ k) (-(k : Int)) := h1
      rw [← hi]
      change Sem.run Tryz.prog (match FloatKind.f64.decode b with
        | .nan s t => (if FloatKind.f64.format.quiet t = t then pure (.float .f64 b) else do
            let kept ← choose (.extern "math.Floor,Ceil,Trunc,RoundToEven.signallingNaN kept" 2)
            pure (.float .f64 (if kept == 1 then b else FloatKind.f64.encode (.nan s (FloatKind.f64.format.quiet t)))))
        | d => (pure (.float .f64 (FloatKind.f64.encode (d.integral .zero))) : Sem Value)) w = _
      rw [hd, h1]
      rfl
    change ((Extern.MathFloor.toIntegral "math.archTrunc" .zero #[.float .f64 b]).run Tryz.prog w).andThen _ = _
    rw [this]; rfl
  · have := Fl.IsI.of_number (s := s) (v := v) (k := 0) hv h2
    rw [Nat.pow_zero, Nat.mul_one] at this
    exact Fl.IsI.n this hv
theorem Trunc_calls (b r : Nat) (h : ∀ w, (callFunc 270 #[.float .f64 b]).run Tryz.prog w = .ok (.value (.float .f64 r)) w) (w : World) : Calls Tryz.prog 259 #[.float .f64 b] w fun e w' => e = .returned (.float .f64 r) ∧ w = w' := by
  go_enter Tryz.func259, Tryz.ntmps259
  go_wp2_with fail
  go_ret
  exact ⟨rfl, rfl⟩
theorem cmp_le {a b : Int} (h : a ≤ b) : compare a b = Ordering.lt ∨ compare a b = Ordering.eq := by
  rw [show compare a b = compareOfLessAndEq a b from rfl]; unfold compareOfLessAndEq
  by_cases h1 : a < b
  · left; rw [if_pos h1]
  · right; rw [if_neg h1, if_pos (by omega)]
theorem cmp_eq (a : Int) : compare a a = Ordering.eq := by
  rw [show compare a a = compareOfLessAndEq a a from rfl]; unfold compareOfLessAndEq; rw [if_neg (by omega), if_pos rfl]
theorem far_n : Fl.IsN 4841369599423283200 4503599627370496 := ⟨false, 0, by decide, by decide, by decide⟩
theorem whole_yes (b : Nat) (v : Int) (h : Fl.IsN b v) (hv : v.natAbs ≤ 4503599627370496) (hb : b < 18446744073709551616) (w : World) : Calls Tryz.prog 242 #[.float .f64 b] w fun e w' => e = .returned (.bool true) ∧ w = w' := by
  obtain ⟨r, hr, hn⟩ := trunc_n h (by omega)
  have ho : FloatKind.f64.format.order b r = some .eq := by have := h.order hn; rw [cmp_eq] at this; exact this
  have ha : FloatKind.f64.format.order (b % 9223372036854775808) 4841369599423283200 = some .lt ∨ FloatKind.f64.format.order (b % 9223372036854775808) 4841369599423283200 = some .eq := by
    have := (abs_n h).order far_n
    rcases cmp_le (show (v.natAbs : Int) ≤ 4503599627370496 by omega) with h | h
    · left; rw [h] at this; exact this
    · right; rw [h] at this; exact this
  have HT := Lib.hid (Trunc_calls b r hr); have HA := Lib.hid (Abs_calls b hb)
  clear hr h hn hb hv
  generalize b % 9223372036854775808 = c at *
  go_enter Tryz.func242, Tryz.ntmps242
  go_wp2_with fail
  refine (HT.out w).mono ?_
  rintro e w' ⟨rfl, rfl⟩
  go_wp2_with fail
  refine (HA.out w).mono ?_
  rintro e w' ⟨rfl, rfl⟩
  rcases ha with ha | ha
  all_goals go_wp2_with fail
  all_goals go_ret
  all_goals exact ⟨rfl, rfl⟩
theorem max_n {x y : Nat} {u v : Int} (hx : Fl.IsN x u) (hy : Fl.IsN y v) (ts : Array TypeId) (t : TypeId) : ∃ r, (∀ w, (Builtin.max_ ts t #[.float .f64 x, .float .f64 y]).run Tryz.prog w = .ok (.float .f64 r) w) ∧ Fl.IsN r (max u v) := by
  have ho : FloatKind.f64.format.order x y = some (compare u v) := hx.order hy
  rcases (by omega : u < v ∨ u = v ∨ v < u) with h | h | h
  · rw [show compare u v = Ordering.lt by rw [show compare u v = compareOfLessAndEq u v from rfl]; unfold compareOfLessAndEq; rw [if_pos h]] at ho
    refine ⟨y, fun w => ?_, by rw [show max u v = v by omega]; exact hy⟩
    simp [Builtin.max_, Builtin.max2, ho]
  · subst h
    rw [cmp_eq] at ho
    refine ⟨if (FloatKind.f64.decode x).neg then y else x, fun w => ?_, ?_⟩
    · simp [Builtin.max_, Builtin.max2, ho]
    · rw [show max u u = u by omega]; split <;> assumption
  · rw [show compare u v = Ordering.gt by rw [show compare u v = compareOfLessAndEq u v from rfl]; unfold compareOfLessAndEq; rw [if_neg (by omega), if_neg (by omega)]] at ho
    refine ⟨x, fun w => ?_, by rw [show max u v = u by omega]; exact hx⟩
    simp [Builtin.max_, Builtin.max2, ho]
theorem conv_n {b : Nat} {v : Int} (h : Fl.IsN b v) (hv : v.natAbs < 2 ^ 53) (w : World) : (convert 174 3 (.float .f64 b)).run Tryz.prog w = .ok (.int .i64 v) w := by
  refine conv_fi b v ?_ w
  unfold floatToIntVal
  rw [show (FloatKind.f64.decode b).toInt .zero = some v from h.toInt]
  rw [show IntKind.i64.min = -9223372036854775808 from rfl, show IntKind.i64.max = 9223372036854775807 from rfl]
  simp only
  rw [if_pos (by omega)]
set_option maxHeartbeats 1000000 in
theorem Ring_yes (x y : Nat) (u v : Int) (hx : Fl.IsN x u) (hy : Fl.IsN y v) (hu : u.natAbs ≤ 4503599627370496) (hv : v.natAbs ≤ 4503599627370496) (bx : x < 18446744073709551616) (bY : y < 18446744073709551616) (w : World) :
    Calls Tryz.prog 182 #[.complex .f64 x y] w fun e w' => e = .returned (.tuple #[.int .i64 (max (u.natAbs : Int) (v.natAbs : Int)), .bool true]) ∧ w = w' := by
  obtain ⟨r, hr, hn⟩ := max_n (abs_n hx) (abs_n hy) #[174, 174] 174
  have hc := conv_n hn (by omega)
  have HWx := Lib.hid (whole_yes x u hx hu bx); have HWy := Lib.hid (whole_yes y v hy hv bY)
  have HAx := Lib.hid (Abs_calls x bx); have HAy := Lib.hid (Abs_calls y bY)
  clear hx hy hn bx bY
  generalize x % 9223372036854775808 = ax at *
  generalize y % 9223372036854775808 = ay at *
  obtain ⟨m, hm⟩ : ∃ m, max (u.natAbs : Int) (v.natAbs : Int) = m := ⟨_, rfl⟩
  rw [hm] at hc
  rw [hm]
  clear hm hu hv
  go_enter Tryz.func182, Tryz.ntmps182
  go_wp2_with fail
  refine (HWx.out w).mono ?_
  rintro e w' ⟨rfl, rfl⟩
  go_wp2_with fail
  refine (HWy.out w).mono ?_
  rintro e w' ⟨rfl, rfl⟩
  go_wp2_with fail
  refine (HAx.out w).mono ?_
  rintro e w' ⟨rfl, rfl⟩
  go_wp2_with fail
  refine (HAy.out w).mono ?_
  rintro e w' ⟨rfl, rfl⟩
  go_wp2_with fail
  go_ret2
  exact ⟨rfl, rfl⟩
set_option exponentiation.threshold 2000
theorem neg_n : Fl.IsN 13830554455654793216 (-1) := ⟨true, 52, by decide, by decide, by decide⟩
theorem mul_mi {p q : Nat} {u v : Int} (hp : Fl.IsN p u) (hq : Fl.IsN q v) (hu : u.natAbs < 2 ^ 53) (hv : v.natAbs < 2 ^ 53) : ∃ re im, cMulBits p q 0 13830554455654793216 = some (re, im) ∧ Fl.IsN re v ∧ Fl.IsN im (-u) := by
  obtain ⟨ac, e1, n1⟩ := hp.mul zero_n (by rw [Int.mul_zero]; decide)
  obtain ⟨bd, e2, n2⟩ := hq.mul neg_n (by omega)
  obtain ⟨re, e3, n3⟩ := (n1.n (by rw [Int.mul_zero]; decide)).sub (n2.n (by omega)) (by omega)
  obtain ⟨ad, e4, n4⟩ := hp.mul neg_n (by omega)
  obtain ⟨bc, e5, n5⟩ := hq.mul zero_n (by rw [Int.mul_zero]; decide)
  obtain ⟨im, e6, n6, _⟩ := (n4.n (by omega)).add (n5.n (by rw [Int.mul_zero]; decide)) (by omega)
  refine ⟨re, im, ?_, ?_, ?_⟩
  · unfold cMulBits floatBits
    show ((Ieee.double.mul p 0).bind fun ac => (Ieee.double.mul q 13830554455654793216).bind fun bd => (Ieee.double.sub ac bd).bind fun re => (Ieee.double.mul p 13830554455654793216).bind fun ad => (Ieee.double.mul q 0).bind fun bc => (Ieee.double.add ad bc).bind fun im => some (re, im)) = _
    rw [e1]; simp only [Option.bind_some]; rw [e2]; simp only [Option.bind_some]; rw [e3]; simp only [Option.bind_some]; rw [e4]; simp only [Option.bind_some]; rw [e5]; simp only [Option.bind_some]; rw [e6]; rfl
  · have := n3.n (by omega)
    rwa [show u * 0 - v * -1 = v by omega] at this
  · have := n6.n (by omega)
    rwa [show u * -1 + v * 0 = -u by omega] at this
theorem tell_calls (i : Nat) (w : World) : Calls Tryz.prog 183 #[.int .i64 (i : Int)] w fun e w' => e = .returned (.int .i64 (if i < 16777216 then 1 else 0)) ∧ w = w' := by
  go_enter Tryz.func183, Tryz.ntmps183
  have h0 : (0 : Int) ≤ (i : Int) := by omega
  by_cases h : i < 16777216
  · have h1 : (i : Int) < 16777216 := by omega
    rw [if_pos h]
    clear h
    go_wp2_with fail
    go_ret
    exact ⟨rfl, rfl⟩
  · have h1 : ¬ (i : Int) < 16777216 := by omega
    rw [if_neg h]
    clear h
    go_wp2_with fail
    go_ret
    exact ⟨rfl, rfl⟩
set_option maxHeartbeats 2000000 in
theorem Index_yes (x y I : Nat) (u v : Int) (hx : Fl.IsN x u) (hy : Fl.IsN y v) (hu : u.natAbs ≤ 4503599627370496) (hv : v.natAbs ≤ 4503599627370496) (bx : x < 18446744073709551616) (bY : y < 18446744073709551616) (hI : Sp.IdxIs I u v) (w : World) :
    Calls Tryz.prog 95 #[.complex .f64 x y] w fun e w' => e = .returned (.tuple #[.int .i64 (if I < 16777216 then (I : Int) else 0), .bool (decide (I < 16777216))]) ∧ w = w' := by
  have HR := Lib.hid (Ring_yes x y u v hx hy hu hv bx bY)
  obtain ⟨r, hr, hr1, hr2, hr3⟩ := Sp.idx_ring hI
  rw [hr] at HR
  have Hx := Lib.hid hx; have Hy := Lib.hid hy; have HI := Lib.hid hI; have Hr := Lib.hid hr
  have hub : u.natAbs ≤ r := by omega
  have hvb : v.natAbs ≤ r := by omega
  have hr0 : ((r : Int) == 0) = false := by rw [beq_eq_false_iff_ne]; omega
  have hrs : r ≤ 4503599627370496 := by omega
  clear hx hy hI hr bx bY hu hv
  go_enter Tryz.func95, Tryz.ntmps95
  by_cases hbig : 16777216 < r
  · have l1 : (16777216 : Int) < (r : Int) := by omega
    have hIb : ¬ I < 16777216 := by
      have := Nat.mul_le_mul (show 16777217 ≤ 2 * r - 1 by omega) (show 1 ≤ 2 * r - 1 by omega)
      omega
    rw [if_neg hIb, decide_eq_false hIb]
    clear hr2 hr3 hbig
    go_wp2_with fail
    refine (HR.out w).mono ?_
    rintro e w' ⟨rfl, rfl⟩
    go_wp2_with fail
    go_ret2
    exact ⟨rfl, rfl⟩
  · have l1 : ¬ (16777216 : Int) < (r : Int) := by omega
    clear hr2 hr3
    go_wp2_with fail
    refine (HR.out w).mono ?_
    rintro e w' ⟨rfl, rfl⟩
    go_wp2_with fail
    go_loopw [0, 23] (fun z k wr => ∃ (a p q : Nat), k = .int .i64 (a : Int) ∧ a ≤ 4 ∧ (∀ s, s < a → ¬ Sp.hit r s u v) ∧ (a < 4 → z = .complex .f64 p q ∧ Fl.IsN p (Sp.tr a u v).1 ∧ Fl.IsN q (Sp.tr a u v).2) ∧ w = wr) (fun _ k _ => 4 - (intOf k).toNat)
    case atStart => exact ⟨0, x, y, rfl, by omega, fun s h => absurd h (by omega), fun _ => ⟨rfl, Hx.out, Hy.out⟩, rfl⟩
    case round =>
      obtain ⟨a, p, q, rfl, ha, hno, hz, rfl⟩ := hrel
      have ha4 : a < 4 := by
        rcases Nat.lt_or_ge a 4 with h | h
        · exact h
        · exfalso
          rcases Sp.some_hit hr1 Hr.out with h | h | h | h
          · exact hno 0 (by omega) h
          · exact hno 1 (by omega) h
          · exact hno 2 (by omega) h
          · exact hno 3 (by omega) h
      obtain ⟨rfl, hp, hq⟩ := hz ha4
      have l2 : (a : Int) < 4 := by omega
      have hsm := Sp.tr_small a u v r hub hvb
      have hcx := conv_n hp (by omega)
      have hcy := conv_n hq (by omega)
      have Hno := Lib.hid hno
      by_cases hh : Sp.hit r a u v
      · obtain ⟨al, g1, g2, g3⟩ := Sp.hit_idx hr1 ha4 hub hvb hh
        have HII := Lib.hid (Sp.idx_one HI.out g3)
        obtain ⟨R, hR⟩ : ∃ R : Nat, R = 2 * r := ⟨_, rfl⟩
        have hRb : R ≤ 33554432 := by omega
        have hOle : (2 * r - 1) * (2 * r - 1) ≤ 33554431 * 33554431 := Nat.mul_le_mul (by omega) (by omega)
        obtain ⟨O, hO, hO2⟩ : ∃ O : Nat, ((R : Int) - 1) * ((R : Int) - 1) = (O : Int) ∧ (2 * r - 1) * (2 * r - 1) = O := ⟨(2 * r - 1) * (2 * r - 1), by rw [show (R : Int) - 1 = ((2 * r - 1 : Nat) : Int) by omega]; push_cast; rfl, rfl⟩
        have hSle : 2 * r * a ≤ 33554432 * 4 := Nat.mul_le_mul (by omega) (by omega)
        obtain ⟨S, hS, hS2⟩ : ∃ S : Nat, (a : Int) * 2 * (r : Int) = (S : Int) ∧ 2 * r * a = S := ⟨2 * r * a, by push_cast; rw [Int.mul_comm ((a : Int) * 2) (r : Int), Int.mul_comm (a : Int) 2, ← Int.mul_assoc, Int.mul_comm (r : Int) 2], rfl⟩
        rw [hO2] at hOle HII
        rw [hS2] at hSle HII
        have hR1 : 2 * (r : Int) = (R : Int) := by omega
        obtain ⟨k1, k2⟩ := hh
        have hX : ((Sp.tr a u v).1 == (r : Int)) = true := by rw [beq_iff_eq]; exact k1
        obtain ⟨X, hXe⟩ : ∃ X, X = (Sp.tr a u v).1 := ⟨_, rfl⟩
        obtain ⟨Y, hYe⟩ : ∃ Y, Y = (Sp.tr a u v).2 := ⟨_, rfl⟩
        rw [← hXe] at hcx hX hsm
        rw [← hYe] at hcy k2 g2 hsm
        have hsum : (O : Int) + (S : Int) + Y - 1 + (r : Int) = (I : Int) := by rw [HII.out]; push_cast; omega
        clear hp hq k1 hXe hYe hz hno g3 hO2 hS2 hR
        go_wp2_with fail
        have hIb : (I : Int) ≤ 1125899906842624 * 4 := by have := HII.out; omega
        clear hsum hO hS hOle hSle hX hcx hcy hsm g1 g2 k2
        by_cases hin : I < 16777216
        · have Hin := Lib.hid hin
          refine (tell_calls I w).mono ?_
          rintro e w' ⟨rfl, rfl⟩
          rw [if_pos hin]
          go_wp2_with fail
          refine (tell_calls I w).mono ?_
          rintro e w' ⟨rfl, rfl⟩
          rw [if_pos hin]
          go_wp2_with fail
          go_ret2
          exact ⟨by first | rfl | (rw [decide_eq_true Hin.out]; rfl) | (rw [if_pos Hin.out]; rfl), rfl⟩
        · have Hin := Lib.hid hin
          refine (tell_calls I w).mono ?_
          rintro e w' ⟨rfl, rfl⟩
          rw [if_neg hin]
          go_wp2_with fail
          refine (tell_calls I w).mono ?_
          rintro e w' ⟨rfl, rfl⟩
          rw [if_neg hin]
          go_wp2_with fail
          go_ret2
          exact ⟨by first | rfl | (rw [decide_eq_false Hin.out]; rfl) | (rw [if_neg Hin.out]; rfl), rfl⟩
      · obtain ⟨re, im, hmul, hre, him⟩ := mul_mi hp hq (by omega) (by omega)
        have g := fun w => run_complex_mul (P := Tryz.prog) w 116 p q 0 13830554455654793216 re im hmul
        have Hre := Lib.hid hre; have Him := Lib.hid him
        have Ht := Lib.hid (fun h => Sp.tr_succ a u v h)
        have Hno2 := Lib.hid (show ∀ s, s < a + 1 → ¬ Sp.hit r s u v from fun s hs => by
          rcases Nat.lt_or_ge s a with h | h
          · exact Hno.out s h
          · have : s = a := by omega
            subst this; exact hh)
        have hcase : (((Sp.tr a u v).1 == (r : Int)) = false) ∨ (((Sp.tr a u v).1 == (r : Int)) = true ∧ ¬ -(r : Int) < (Sp.tr a u v).2) := by
          unfold Sp.hit at hh
          by_cases h : (Sp.tr a u v).1 = r
          · right; exact ⟨by rw [beq_iff_eq]; exact h, fun h2 => hh ⟨h, h2⟩⟩
          · left; rw [beq_eq_false_iff_ne]; exact h
        obtain ⟨X, hXe⟩ : ∃ X, X = (Sp.tr a u v).1 := ⟨_, rfl⟩
        obtain ⟨Y, hYe⟩ : ∃ Y, Y = (Sp.tr a u v).2 := ⟨_, rfl⟩
        rw [← hXe, ← hYe] at hcase hsm
        rw [← hXe] at hcx Him
        rw [← hYe] at hcy Hre
        have HX := Lib.hid hXe; have HY := Lib.hid hYe
        clear hp hq hno hz hXe hYe hmul hre him hh
        rcases hcase with hX | ⟨hX, hY⟩
        all_goals go_wp2_with fail
        all_goals exact ⟨⟨a + 1, re, im, by congr 1, by omega, Hno2.out, fun h => ⟨rfl, by rw [Ht.out (by omega), ← HY.out]; exact Hre.out, by rw [Ht.out (by omega), ← HX.out]; exact Him.out⟩, trivial⟩, by simp [intOf]; omega⟩
/-- Numbers that are themselves. -/
def Own1 (z : Nat × Nat) : Prop := FloatKind.f64.format.order z.1 z.1 = some .eq ∧ FloatKind.f64.format.order z.2 z.2 = some .eq
set_option maxHeartbeats 1000000 in
theorem sameC_calls (A A' : Option Addr) (n cap cap' B B' : Nat) (zs : List (Nat × Nat)) (w : World) (hn : n = zs.length) (hm : n ≤ 9223372036854775807) (hz : ∀ z ∈ zs, Own1 z) (hr : Rd w B A (zs.map VC)) (hr' : Rd w B' A' (zs.map VC)) :
    Calls Tryz.prog 59 #[.slice A n cap, .slice A' n cap'] w fun e w' => e = .returned (.bool true) ∧ ∃ k, w' = w.drewN k := by
  have Hn := Lib.hid hn; have Hr := Lib.hid hr; have Hr' := Lib.hid hr'; have Hz := Lib.hid hz
  clear hn hr hr' hz
  go_enter Tryz.func59, Tryz.ntmps59
  have hnn : ((n : Int) != (n : Int)) = false := by simp
  go_wp2_with fail
  go_loopw [5] (fun i wr => ∃ a : Nat, i = .int .i64 (a : Int) ∧ a ≤ n ∧ ∃ k, wr = w.drewN k) (fun i _ => n - (intOf i).toNat)
  case atStart => exact ⟨0, rfl, by omega, 0, rfl⟩
  case round =>
    obtain ⟨a, rfl, ha, hd⟩ := hrel
    have Hd := Lib.hid hd; clear hd
    by_cases hlt : a < n
    · have q1 : (a : Int) < (n : Int) := by omega
      obtain ⟨z, hz⟩ : ∃ z, zs[a]? = some z := ⟨zs[a]'(by rw [← Hn.out]; omega), List.getElem?_eq_getElem _⟩
      obtain ⟨b, off, rfl, hb, hc1⟩ := rd_getc (w := wr) (by obtain ⟨d, rfl⟩ := Hd.out; exact Hr.out) hz
      obtain ⟨b', off', rfl, hb', hc1'⟩ := rd_getc (w := wr) (by obtain ⟨d, rfl⟩ := Hd.out; exact Hr'.out) hz
      obtain ⟨o1, o2⟩ := Hz.out z (List.mem_of_getElem? hz)
      have Hd2 := Lib.hid (fun m => show ∃ k, wr.drewN m = w.drewN k by obtain ⟨d, rfl⟩ := Hd.out; exact ⟨_, World.drewN_drewN _ _ _⟩)
      clear hz
      go_wp2_with fail
      go_big_quiet (fail)
      go_wp2_with fail
      exact ⟨⟨a + 1, by congr 1, by omega, Hd2.out _⟩, by simp [intOf]; omega⟩
    · have q1 : ¬ (a : Int) < (n : Int) := by omega
      go_wp2_with fail
      go_ret
      exact ⟨rfl, Hd.out⟩
/-- The side of the least square. -/
def Sp.side (n : Nat) : Nat := let r := if Sp.isq n * Sp.isq n < n then Sp.isq n + 1 else Sp.isq n; r + 1 - r % 2
set_option maxHeartbeats 1000000 in
theorem Side_calls (n : Nat) (h1 : 1 ≤ n) (hn : n ≤ 9223372036854775807) (w : World) : Calls Tryz.prog 96 #[.int .i64 (n : Int)] w fun e w' => e = .returned (.int .i64 (Sp.side n : Nat)) ∧ w = w' := by
  have h0 : ¬ (n : Int) ≤ 0 := by omega
  obtain ⟨s1, s2⟩ := Sp.isq_spec n
  obtain ⟨r, hr⟩ : ∃ r, r = Sp.isq n := ⟨_, rfl⟩
  have hrb : r ≤ 3037000499 := by
    rcases Nat.lt_or_ge r 3037000500 with h | h
    · omega
    · rw [← hr] at s1; have := Nat.mul_le_mul h h; omega
  have Hs := Lib.hid (show Sp.side n = (if r * r < n then r + 1 else r) + 1 - (if r * r < n then r + 1 else r) % 2 by unfold Sp.side; rw [hr])
  have Hroot := Lib.hid (root_calls n hn)
  rw [← hr] at Hroot s1 s2
  clear hr
  obtain ⟨q, hq, hq2⟩ : ∃ q : Nat, (r : Int) * (r : Int) = (q : Int) ∧ r * r = q := ⟨r * r, by push_cast; rfl, rfl⟩
  rw [hq2] at s1 Hs
  have hqb : q ≤ 9223372036854775807 := by omega
  clear hq2 s2
  go_enter Tryz.func96, Tryz.ntmps96
  go_wp2_with fail
  refine (Hroot.out w).mono ?_
  rintro e w' ⟨rfl, rfl⟩
  by_cases hlt : (q : Int) < (n : Int)
  · have Hf : Hid (((Sp.side n : Nat) : Int) = (r : Int) + 1 + 1 - ((r : Int) + 1) % 2) := Lib.hid (by rw [Hs.out, if_pos (by omega)]; omega)
    go_wp2_with fail
    go_ret
    exact ⟨by rw [Hf.out]; rfl, rfl⟩
  · have Hf : Hid (((Sp.side n : Nat) : Int) = (r : Int) + 1 - (r : Int) % 2) := Lib.hid (by rw [Hs.out, if_neg (by omega)]; omega)
    go_wp2_with fail
    go_ret
    exact ⟨by rw [Hf.out]; rfl, rfl⟩
/-- One block alone may have changed; memory may have grown. -/
abbrev Upd (g : Nat) (w w' : World) : Prop := w.grownBy w' (some g)
theorem Upd.refl (g : Nat) (w : World) : Upd g w w := ⟨rfl, rfl, rfl, Nat.le_refl _, fun _ _ _ => rfl⟩
theorem Upd.trans {g : Nat} {a b c : World} (h : Upd g a b) (k : Upd g b c) : Upd g a c :=
  ⟨k.os.trans h.os, k.tape.trans h.tape, k.output.trans h.output, Nat.le_trans h.size k.size, fun i hi hne => (k.block i (Nat.lt_of_lt_of_le hi h.size) hne).trans (h.block i hi hne)⟩
theorem Upd.below {g B : Nat} {w w' : World} (h : Upd g w w') (hB : B ≤ g) (hs : B ≤ w.heap.size) : Below B w w' :=
  (Below.refl B w).grown h hs fun k e => by injection e with e; omega
theorem Upd.setCell {g : Nat} (w : World) (o : Nat) (v : Value) : Upd g w (w.setCell ⟨g, o, none⟩ v) := by
  refine ⟨rfl, rfl, rfl, by simp [World.setCell], fun k hk hne => ?_⟩
  have hne' : g ≠ k := fun h => hne (by rw [h])
  simp [World.setCell, Array.getElem?_modify, hne']
namespace Sp
def swp (X : List Int) (j : Nat) : List Int := (X.set (j + 1) (X.getD j 0)).set j (X.getD (j + 1) 0)
/-- One element is taken down to its place. -/
def bub (lt : Int → Int → Bool) (a : Nat) : Nat → List Int → List Int
  | 0, X => X
  | j + 1, X => if a < j + 1 ∧ lt (X.getD (j + 1) 0) (X.getD j 0) = true then bub lt a j (swp X j) else X
def insN (lt : Int → Int → Bool) (a : Nat) : Nat → Nat → List Int → List Int
  | 0, _, X => X
  | k + 1, i, X => insN lt a k (i + 1) (bub lt a i X)
theorem swp_length (X : List Int) (j : Nat) : (swp X j).length = X.length := by simp [swp]
theorem swp_mem (X : List Int) (j : Nat) (h : j + 1 < X.length) (z : Int) (hz : z ∈ swp X j) : z ∈ X := by
  have g : ∀ i, i < X.length → X.getD i 0 ∈ X := fun i hi => by simp [List.getD, List.getElem?_eq_getElem hi]
  unfold swp at hz
  rcases List.mem_or_eq_of_mem_set hz with h1 | h1
  · rcases List.mem_or_eq_of_mem_set h1 with h2 | h2
    · exact h2
    · rw [h2]; exact g _ (by omega)
  · rw [h1]; exact g _ h
theorem bub_length (lt : Int → Int → Bool) (a : Nat) : ∀ (j : Nat) (X : List Int), (bub lt a j X).length = X.length
  | 0, X => rfl
  | j + 1, X => by unfold bub; split; rw [bub_length lt a j, swp_length]; rfl
theorem bub_stop (lt : Int → Int → Bool) (a j : Nat) (X : List Int) (h : j ≤ a ∨ lt (X.getD j 0) (X.getD (j - 1) 0) = false) : bub lt a j X = X := by
  cases j with
  | zero => rfl
  | succ j =>
    unfold bub; rw [if_neg]
    rintro ⟨h1, h2⟩
    rcases h with h | h
    · omega
    · rw [Nat.add_sub_cancel, h2] at h; cases h
theorem bub_go (lt : Int → Int → Bool) (a j : Nat) (X : List Int) (h1 : a < j + 1) (h2 : lt (X.getD (j + 1) 0) (X.getD j 0) = true) : bub lt a (j + 1) X = bub lt a j (swp X j) := by
  rw [bub, if_pos ⟨h1, h2⟩]
theorem insN_step (lt : Int → Int → Bool) (a b k : Nat) (X : List Int) (h : k < b) : insN lt a (b - k) k X = insN lt a (b - (k + 1)) (k + 1) (bub lt a k X) := by
  rw [show b - k = (b - (k + 1)) + 1 by omega, insN]
end Sp
theorem Upd.drewN (g : Nat) (w : World) (k : Nat) : Upd g w (w.drewN k) := ⟨rfl, rfl, rfl, Nat.le_refl _, fun _ _ _ => rfl⟩
set_option maxHeartbeats 8000000 in
set_option maxRecDepth 20000 in
theorem ins_calls (g n cap base a b : Nat) (X : List Int) (c : Int → Int → Int) (cb : Array Value) (w : World) (hX : X.length = n) (hab : a ≤ b) (hb : b ≤ n) (hn : n ≤ 1099511627776)
    (hown : w.ownsRow base 3 1 (.slice (some ⟨g, 0, none⟩) n cap) n (X.map VI))
    (hc : ∀ w' x y, Upd g w w' → x ∈ X → y ∈ X → ∀ m, Calls Tryz.prog 98 (#[.int .i64 x, .int .i64 y] ++ cb) (w'.drewN m) fun e w'' => e = .returned (.int .i64 (c x y)) ∧ ∃ q, w'' = (w'.drewN m).drewN q) :
    Calls Tryz.prog 244 #[.slice (some ⟨g, 0, none⟩) n cap, .int .i64 (a : Int), .int .i64 (b : Int), .func (.func 98) #[] cb] w fun e w' =>
      e = .returned (.tuple #[]) ∧ w'.ownsRow base 3 1 (.slice (some ⟨g, 0, none⟩) n cap) n ((Sp.insN (fun x y => decide (c x y < 0)) a (b - (a + 1)) (a + 1) X).map VI) ∧ Upd g w w' := by
  have HC := Lib.hid hc; have HX := Lib.hid hX; have Hown := Lib.hid hown
  clear hc hX hown
  go_enter Tryz.func244, Tryz.ntmps244
  go_wp2_with fail
  go_loopw [8] (fun i wr => ∃ (k : Nat) (Y : List Int), (∀ z ∈ Y, z ∈ X) ∧ i = .int .i64 (k : Int) ∧ a < k ∧ (k ≤ b ∨ k = a + 1) ∧ Y.length = n ∧ wr.ownsRow base 3 1 (.slice (some ⟨g, 0, none⟩) n cap) n (Y.map VI) ∧ Sp.insN (fun x y => decide (c x y < 0)) a (b - k) k Y = Sp.insN (fun x y => decide (c x y < 0)) a (b - (a + 1)) (a + 1) X ∧ Upd g w wr) (fun i _ => b - (intOf i).toNat)
  case atStart => exact ⟨a + 1, X, fun _ h => h, by congr 1, by omega, Or.inr rfl, HX.out, Hown.out, rfl, Upd.refl _ _⟩
  case round =>
    obtain ⟨k, Y, hYX, rfl, hak, hkb, hY, hown, he, hu⟩ := hrel
    have HYX := Lib.hid hYX
    clear hYX
    have HY := Lib.hid hY; have Hownr := Lib.hid hown; have He := Lib.hid he; have Hu := Lib.hid hu
    clear hY hown he hu
    by_cases hlt : k < b
    · have l1 : (k : Int) < (b : Int) := by omega
      go_wp2_with fail
      go_loopw [9] (fun j wx => ∃ (q : Nat) (Z : List Int), (∀ z ∈ Z, z ∈ X) ∧ j = .int .i64 (q : Int) ∧ q ≤ k ∧ a ≤ q ∧ Z.length = n ∧ wx.ownsRow base 3 1 (.slice (some ⟨g, 0, none⟩) n cap) n (Z.map VI) ∧ Sp.bub (fun x y => decide (c x y < 0)) a q Z = Sp.bub (fun x y => decide (c x y < 0)) a k Y ∧ Upd g w wx) (fun j _ => (intOf j).toNat)
      case atStart => exact ⟨k, Y, HYX.out, rfl, by omega, by omega, HY.out, Hownr.out, rfl, Hu.out⟩
      case round =>
        obtain ⟨q, Z, hZX, rfl, hqk, haq, hZ, hown, he2, hu⟩ := hrel
        have HZX := Lib.hid hZX
        clear hZX
        have HZ := Lib.hid hZ; have Hownx := Lib.hid hown; have He2 := Lib.hid he2; have Hux := Lib.hid hu
        clear hZ hown he2 hu
        by_cases hja : a < q
        · obtain ⟨jp, rfl⟩ : ∃ jp, q = jp + 1 := ⟨q - 1, by omega⟩
          have hz1 : Z[jp + 1]? = some (Z.getD (jp + 1) 0) := by have := HZ.out; simp [List.getD, List.getElem?_eq_getElem (show jp + 1 < Z.length by omega)]
          have hz0 : Z[jp]? = some (Z.getD jp 0) := by have := HZ.out; simp [List.getD, List.getElem?_eq_getElem (show jp < Z.length by omega)]
          obtain ⟨xj, hxj⟩ : ∃ x, Z.getD (jp + 1) 0 = x := ⟨_, rfl⟩
          obtain ⟨xp, hxp⟩ : ∃ x, Z.getD jp 0 = x := ⟨_, rfl⟩
          rw [hxj] at hz1
          rw [hxp] at hz0
          have cj := Hownx.out.cellAt (jp + 1) (by omega)
          rw [List.getElem?_map, hz1] at cj
          have cj : wr.cell? ⟨g, jp + 1, none⟩ = some (.int .i64 xj) := cj
          have cp := Hownx.out.cellAt jp (by omega)
          rw [List.getElem?_map, hz0] at cp
          have cp : wr.cell? ⟨g, jp, none⟩ = some (.int .i64 xp) := cp
          have fj := Hownx.out.frozenAt (jp + 1)
          have fp := Hownx.out.frozenAt jp
          have hcc := HC.out wr xj xp Hux.out (HZX.out _ (List.mem_of_getElem? hz1)) (HZX.out _ (List.mem_of_getElem? hz0))
          have HXJ := Lib.hid hxj; have HXP := Lib.hid hxp
          have jz : (jp : Int) + 1 < (n : Int) := by omega
          have jz1 : (jp : Int) < (n : Int) := by omega
          have hjaz' : (a : Int) < (jp : Int) + 1 := by omega
          have p0 : (0 : Int) ≤ (jp : Int) + 1 := by omega
          have e0 : ((jp : Int) + 1).toNat = jp + 1 := by omega
          clear hz1 hz0 hxj hxp
          have HU := Lib.hid Hux.out
          by_cases hlv : c xj xp < 0
          · go_wp2_with fail
            go_big_quiet (first | (go_at_call 98; refine Calls.quiet_of (hcc _)))
            go_wp2_with fail
            have cj2 : (wr.drewN nq).cell? ⟨g, jp + 1, none⟩ = some (.int .i64 xj) := cj
            have cp2 : (wr.drewN nq).cell? ⟨g, jp, none⟩ = some (.int .i64 xp) := cp
            have fj2 : (wr.drewN nq).frozen? ⟨g, jp + 1, none⟩ = false := fj
            have fp2 : (wr.drewN nq).frozen? ⟨g, jp, none⟩ = false := fp
            have Ho2 := Lib.hid (show (wr.drewN nq).ownsRow base 3 1 (.slice (some ⟨g, 0, none⟩) n cap) n (Z.map VI) from own_below Hownx.out (below_drewN (Below.refl _ _) _) (Nat.le_refl _))
            have Hu2 := Lib.hid (show Upd g w (wr.drewN nq) from Hux.out.trans (Upd.drewN g _ _))
            clear cj cp fj fp hcc Hux HU Hownx
            generalize wr.drewN nq = wq at *
            obtain ⟨j1, hj1⟩ : ∃ j1, j1 = jp + 1 := ⟨_, rfl⟩
            rw [← hj1] at cj2 fj2 e0
            have J1 := Lib.hid hj1
            clear hj1
            go_big_region
            have h1 := (Ho2.out.stored j1 (VI xp)).1
            have h2 := (h1.stored jp (VI xj)).1
            rw [show ((Z.map VI).set j1 (VI xp)).set jp (VI xj) = (Sp.swp Z jp).map VI by rw [J1.out]; unfold Sp.swp; rw [List.map_set, List.map_set, HXJ.out, HXP.out]] at h2
            have H3 := Lib.hid (own_below h2 (below_drewN (Below.refl _ _) 1) (Nat.le_refl _))
            have H4 := Lib.hid (((Hu2.out.trans (Upd.setCell wq j1 (VI xp))).trans (Upd.setCell _ jp (VI xj))).trans (Upd.drewN g _ 1))
            clear h1 h2
            go_wp2_with fail
            exact ⟨⟨jp, Sp.swp Z jp, fun z hz => HZX.out z (Sp.swp_mem Z jp (by have := HZ.out; omega) z hz), rfl, by omega, by omega, by rw [Sp.swp_length]; exact HZ.out, H3.out, by rw [← He2.out, Sp.bub_go _ _ _ _ (by omega) (by rw [HXJ.out, HXP.out]; exact decide_eq_true hlv)], H4.out⟩, by first | (simp [intOf]; done) | (simp [intOf]; omega)⟩
          · go_wp2_with fail
            go_big_quiet (first | (go_at_call 98; refine Calls.quiet_of (hcc _)))
            go_wp2_with fail
            exact ⟨⟨k + 1, Z, HZX.out, by congr 1, by omega, by omega, HZ.out, own_below Hownx.out (below_drewN (Below.refl _ _) _) (Nat.le_refl _), by rw [← He.out, Sp.insN_step _ _ _ _ _ hlt, ← He2.out, Sp.bub_stop _ _ _ _ (Or.inr (by rw [Nat.add_sub_cancel, HXJ.out, HXP.out]; exact decide_eq_false (by omega)))], Hux.out.trans (Upd.drewN g _ _)⟩, by simp [intOf]; omega⟩
        · have hjaz : ¬ (a : Int) < (q : Int) := by omega
          go_wp2_with fail
          go_big_quiet (fail)
          go_wp2_with fail
          exact ⟨⟨k + 1, Z, HZX.out, by congr 1, by omega, by omega, HZ.out, own_below Hownx.out (below_drewN (Below.refl _ _) _) (Nat.le_refl _), by rw [← He.out, Sp.insN_step _ _ _ _ _ hlt, ← He2.out, Sp.bub_stop _ _ _ _ (Or.inl (by omega))], Hux.out.trans (Upd.drewN g _ _)⟩, by simp [intOf]; omega⟩
    · have l1 : ¬ (k : Int) < (b : Int) := by omega
      go_wp2_with fail
      go_end0
      refine ⟨rfl, ?_, Hu.out⟩
      rw [← He.out, show b - k = 0 by omega]
      exact Hownr.out
/-- What is asked of the closure. -/
def Reads (g : Nat) (X : List Int) (c : Int → Int → Int) (cb : Array Value) (w : World) : Prop :=
  ∀ w' x y, Upd g w w' → x ∈ X → y ∈ X → ∀ m, Calls Tryz.prog 98 (#[.int .i64 x, .int .i64 y] ++ cb) (w'.drewN m) fun e w'' => e = .returned (.int .i64 (c x y)) ∧ ∃ q, w'' = (w'.drewN m).drewN q
set_option maxHeartbeats 2000000 in
theorem stable_small (g n cap base : Nat) (X : List Int) (c : Int → Int → Int) (cb : Array Value) (w : World) (hX : X.length = n) (hn : n < 20)
    (hown : w.ownsRow base 3 1 (.slice (some ⟨g, 0, none⟩) n cap) n (X.map VI)) (hc : Reads g X c cb w) :
    Calls Tryz.prog 184 #[.slice (some ⟨g, 0, none⟩) n cap, .int .i64 (n : Int), .func (.func 98) #[] cb] w fun e w' =>
      e = .returned (.tuple #[]) ∧ w'.ownsRow base 3 1 (.slice (some ⟨g, 0, none⟩) n cap) n ((Sp.insN (fun x y => decide (c x y < 0)) 0 (n - 1) 1 X).map VI) ∧ Upd g w w' := by
  have HI := Lib.hid (ins_calls g n cap base 0 n X c cb w hX (by omega) (Nat.le_refl _) (by omega) hown hc)
  clear hc hown hX
  have l1 : ¬ (20 : Int) ≤ (n : Int) := by omega
  have l2 : ¬ (20 : Int) < (n : Int) := by omega
  go_enter Tryz.func184, Tryz.ntmps184
  go_wp2_with fail
  go_loopw [7, 8] (fun x y wr => x = .int .i64 0 ∧ y = .int .i64 20 ∧ w = wr) (fun _ _ _ => 0)
  case atStart => exact ⟨rfl, rfl, rfl⟩
  case round =>
    obtain ⟨rfl, rfl, rfl⟩ := hrel
    go_wp2_with fail
    refine (HI.out).mono ?_
    rintro e w2 ⟨rfl, hown, hu⟩
    have Hown := Lib.hid hown; have Hu := Lib.hid hu
    clear hown hu HI
    go_wp2_with fail
    go_loopw [6] (fun x wr => x = .int .i64 20 ∧ w2 = wr) (fun _ _ => 0)
    case atStart => exact ⟨rfl, rfl⟩
    case round =>
      obtain ⟨rfl, rfl⟩ := hrel
      go_wp2_with fail
      go_end0
      exact ⟨rfl, Hown.out, Hu.out⟩
set_option maxHeartbeats 2000000 in
theorem sortStable_small (g n cap base : Nat) (X : List Int) (c : Int → Int → Int) (cb : Array Value) (w : World) (hX : X.length = n) (hn : n < 20)
    (hown : w.ownsRow base 3 1 (.slice (some ⟨g, 0, none⟩) n cap) n (X.map VI)) (hc : Reads g X c cb w) :
    Calls Tryz.prog 97 #[.slice (some ⟨g, 0, none⟩) n cap, .func (.func 98) #[] cb] w fun e w' =>
      e = .returned (.tuple #[]) ∧ w'.ownsRow base 3 1 (.slice (some ⟨g, 0, none⟩) n cap) n ((Sp.insN (fun x y => decide (c x y < 0)) 0 (n - 1) 1 X).map VI) ∧ Upd g w w' := by
  have HI := Lib.hid (stable_small g n cap base X c cb w hX hn hown hc)
  clear hc hown hX
  go_enter Tryz.func97, Tryz.ntmps97
  go_wp2_with fail
  refine (HI.out).mono ?_
  rintro e w2 ⟨rfl, hown, hu⟩
  have Hown := Lib.hid hown; have Hu := Lib.hid hu
  clear hown hu HI
  go_wp2_with fail
  go_end0
  exact ⟨rfl, Hown.out, Hu.out⟩
/-- How Place's closure compares. -/
def Sp.cf (zs : List Int) (x y : Int) : Int := if zs.getD y.toNat 0 < zs.getD x.toNat 0 then -1 else if zs.getD x.toNat 0 < zs.getD y.toNat 0 then 1 else 0
set_option maxHeartbeats 2000000 in
theorem cmp_calls (gb n cap B x y : Nat) (A : Option Addr) (zs : List Int) (w : World) (hn : n = zs.length) (hx : x < n) (hy : y < n) (hbox : w.cell? ⟨gb, 0, none⟩ = some (.slice A n cap)) (hr : Rd w B A (zs.map VI)) :
    Calls Tryz.prog 98 (#[.int .i64 (x : Int), .int .i64 (y : Int)] ++ #[.pointer (some ⟨gb, 0, none⟩)]) w fun e w' => e = .returned (.int .i64 (Sp.cf zs (x : Int) (y : Int))) ∧ ∃ q, w' = w.drewN q := by
  have hzx : zs[x]? = some (zs.getD x 0) := by simp [List.getD, List.getElem?_eq_getElem (show x < zs.length by omega)]
  have hzy : zs[y]? = some (zs.getD y 0) := by simp [List.getD, List.getElem?_eq_getElem (show y < zs.length by omega)]
  have Hcf := Lib.hid (show Sp.cf zs (x : Int) (y : Int) = if zs.getD y 0 < zs.getD x 0 then -1 else if zs.getD x 0 < zs.getD y 0 then 1 else 0 by unfold Sp.cf; rw [Int.toNat_natCast, Int.toNat_natCast])
  obtain ⟨u, hu⟩ : ∃ u, u = zs.getD x 0 := ⟨_, rfl⟩
  obtain ⟨v, hv⟩ : ∃ v, v = zs.getD y 0 := ⟨_, rfl⟩
  rw [← hu] at hzx Hcf
  rw [← hv] at hzy Hcf
  obtain ⟨b, off, hA, _, cx⟩ := rd_get hr hzx
  obtain ⟨b', off', hA', _, cy⟩ := rd_get hr hzy
  rw [hA] at hA'
  injection hA' with e1
  injection e1 with e2 e3
  subst e2 e3 hA
  have x1 : (x : Int) < (n : Int) := by omega
  have y1 : (y : Int) < (n : Int) := by omega
  clear hu hv hzx hzy hr hn hx hy
  show Calls _ _ #[.int .i64 (x : Int), .int .i64 (y : Int), .pointer (some ⟨gb, 0, none⟩)] _ _
  go_enter Tryz.func98, Tryz.ntmps98
  by_cases h1 : v < u
  · have Hc : Hid (Sp.cf zs (x : Int) (y : Int) = -1) := Lib.hid (by rw [Hcf.out, if_pos h1])
    go_wp2_with fail
    go_big_quiet (fail)
    go_wp2_with fail
    go_ret
    exact ⟨by rw [Hc.out]; rfl, nq, rfl⟩
  · by_cases h2 : u < v
    · have Hc : Hid (Sp.cf zs (x : Int) (y : Int) = 1) := Lib.hid (by rw [Hcf.out, if_neg h1, if_pos h2])
      go_wp2_with fail
      go_big_quiet (fail)
      go_wp2_with fail
      go_big_quiet (fail)
      go_wp2_with fail
      go_ret
      exact ⟨by rw [Hc.out]; rfl, _, World.drewN_drewN _ _ _⟩
    · have Hc : Hid (Sp.cf zs (x : Int) (y : Int) = 0) := Lib.hid (by rw [Hcf.out, if_neg h1, if_neg h2])
      go_wp2_with fail
      go_big_quiet (fail)
      go_wp2_with fail
      go_big_quiet (fail)
      go_wp2_with fail
      go_ret
      exact ⟨by rw [Hc.out]; rfl, _, World.drewN_drewN _ _ _⟩
theorem run_store_complex {P : Program} (w : World) (a : Addr) (m : Mode) (k : FloatKind) (x y : Nat) : (store a (.complex k x y) m).run P w = stored P w a (.complex k x y) m := run_store P w a _ m rfl
attribute [local go_sem] run_store_complex
theorem infoC : (Tryz.prog.info? 116).map (fun i => (i.zero, i.size, i.bytes)) = some (some (.complex .f64 0 0), 1, 16) := by kernel_rfl
theorem descCs : Tryz.prog.underlying 110 = some (.slice 116) := by kernel_rfl
def zerosC (n : Nat) : Array Value := madeCells (Value.complex .f64 0 0).cells (n * 1)
theorem zerosC_size (n : Nat) : (zerosC n).size = n := by unfold zerosC; rw [size_madeCells]; simp [Value.cells]
theorem make_c (l : Nat) (hc : l * 16 ≤ 140737488355328) (w : World) : (Instr.makeSlice 110 (.int .i64 (l : Int)) (.int .i64 (l : Int))).run Tryz.prog w =
    .ok (.slice (some ⟨w.heap.size, 0, none⟩) l l) (w.alloc (.cells (zerosC l) 116)) := by
  obtain ⟨i0, hi, hz0, hz1, hz2⟩ := info_parts infoC
  have := run_make (P := Tryz.prog) w 110 116 i0 _ descCs hi hz0 .i64 .i64 l l (by omega) (by omega) (by rw [hz2]; omega) (by omega)
  rw [this, hz1]; rfl
/-- What the places are, k of them laid. -/
def Sp.pl (T : List Int) (n : Nat) : Nat → List (Nat × Nat)
  | 0 => List.replicate n (0, 0)
  | k + 1 => (Sp.pl T n k).set (T.getD k 0).toNat (fv (Sp.spot k).1, fv (Sp.spot k).2)
/-- 0, 1 .. a - 1, and noughts. -/
def rg (n a : Nat) : List Int := (List.range n).map fun i : Nat => if i < a then (i : Int) else 0
theorem rg_length (n a : Nat) : (rg n a).length = n := by simp [rg]
theorem rg_set (n a : Nat) (h : a < n) : (rg n a).set a (a : Int) = rg n (a + 1) := by
  apply List.ext_getElem?
  intro i
  unfold rg
  rw [List.getElem?_set, List.length_map, List.length_range]
  by_cases hi : a = i
  · subst hi
    rw [if_pos rfl, if_pos h, List.getElem?_map, List.getElem?_range h]; simp
  · rw [if_neg hi, List.getElem?_map, List.getElem?_map]
    rcases Nat.lt_or_ge i n with h1 | h1
    · rw [List.getElem?_range h1]; simp only [Option.map_some]; congr 1
      by_cases h2 : i < a
      · rw [if_pos h2, if_pos (by omega)]
      · rw [if_neg h2, if_neg (by omega)]
    · rw [List.getElem?_eq_none (by simpa using h1)]; rfl
theorem rg_full (n : Nat) : rg n n = (List.range n).map fun i : Nat => (i : Int) := by
  unfold rg; apply List.map_congr_left; intro i hi; rw [if_pos (List.mem_range.1 hi)]
theorem own_zeros (w : World) (n : Nat) (hn : n ≤ 1000) : (w.alloc (.cells (zerosI n) 3)).ownsRow w.heap.size 3 1 (.slice (some ⟨w.heap.size, 0, none⟩) n n) n ((rg n 0).map VI) := by
  refine ⟨by rw [List.length_map, rg_length]; omega, Or.inr ⟨w.heap.size, n, zerosI n, rfl, Nat.le_refl _, heap_alloc_new _ _, Nat.le_refl _, by unfold maxLen; omega, by rw [zerosI_size]; omega, ?_⟩⟩
  rw [show zerosI n = madeCells #[.int .i64 0] (n * 1) from rfl, toList_madeCells_one, List.take_of_length_le (by simp)]
  unfold rg
  simp [List.map_const']
theorem own_zerosC (w : World) (n : Nat) (hn : n ≤ 16777216) : (w.alloc (.cells (zerosC n) 116)).ownsRow w.heap.size 116 1 (.slice (some ⟨w.heap.size, 0, none⟩) n n) n ((List.replicate n (0, 0)).map VC) := by
  refine ⟨by rw [List.length_map, List.length_replicate]; omega, Or.inr ⟨w.heap.size, n, zerosC n, rfl, Nat.le_refl _, heap_alloc_new _ _, Nat.le_refl _, by unfold maxLen; omega, by rw [zerosC_size]; omega, ?_⟩⟩
  rw [show zerosC n = madeCells #[.complex .f64 0 0] (n * 1) from rfl, toList_madeCells_one, List.take_of_length_le (by simp), List.map_replicate, Nat.mul_one]
theorem Sp.pl_length (T : List Int) (n : Nat) : ∀ k, (Sp.pl T n k).length = n
  | 0 => by unfold Sp.pl; simp
  | k + 1 => by unfold Sp.pl; rw [List.length_set]; exact Sp.pl_length T n k
theorem Sp.bub_mem (lt : Int → Int → Bool) (a : Nat) : ∀ (j : Nat) (X : List Int), j < X.length → ∀ z ∈ Sp.bub lt a j X, z ∈ X
  | 0, X, _, z, hz => hz
  | j + 1, X, h, z, hz => by
    unfold Sp.bub at hz
    split at hz
    · exact Sp.swp_mem X j h z (Sp.bub_mem lt a j (Sp.swp X j) (by rw [Sp.swp_length]; omega) z hz)
    · exact hz
theorem Sp.insN_mem (lt : Int → Int → Bool) (a : Nat) : ∀ (k i : Nat) (X : List Int), i + k ≤ X.length → (∀ z ∈ Sp.insN lt a k i X, z ∈ X) ∧ (Sp.insN lt a k i X).length = X.length
  | 0, i, X, _ => ⟨fun _ h => h, rfl⟩
  | k + 1, i, X, h => by
    have hl := Sp.bub_length lt a i X
    obtain ⟨h1, h2⟩ := Sp.insN_mem lt a k (i + 1) (Sp.bub lt a i X) (by rw [hl]; omega)
    unfold Sp.insN
    exact ⟨fun z hz => Sp.bub_mem lt a i X (by omega) z (h1 z hz), by rw [h2, hl]⟩
theorem own_ne {w w' : World} {base g gx n cap k : Nat} {t : TypeId} {xs : List Value} (ho : w.ownsRow base t 1 (.slice (some ⟨g, 0, none⟩) n cap) k xs) (hne : gx ≠ g) (hu : Upd gx w w') : w'.ownsRow base t 1 (.slice (some ⟨g, 0, none⟩) n cap) k xs := by
  refine ho.kept hu ?_
  right; simp [Value.ownBlock]; omega
attribute [local go_sem] run_store_complex
set_option maxHeartbeats 8000000 in
set_option maxRecDepth 20000 in
theorem place_small (A : Option Addr) (n cap B : Nat) (zs : List Int) (w : World) (hn : n = zs.length) (hm : n < 20) (h1n : 1 ≤ n) (hz : ∀ z ∈ zs, 0 ≤ z) (hB : B ≤ w.heap.size) (hr : Rd w B A (zs.map VI)) :
    Calls Tryz.prog 53 #[.slice A n cap] w fun e w' => ∃ A' cap', e = .returned (.tuple #[.slice A' n cap', .int .i64 0]) ∧
      w'.ownsRow w.heap.size 116 1 (.slice A' n cap') n ((Sp.pl (Sp.insN (fun x y => decide (Sp.cf zs x y < 0)) 0 (n - 1) 1 ((List.range n).map fun i : Nat => (i : Int))) n n).map VC) ∧ Below w.heap.size w w' := by
  have hmk := make_int n n (Nat.le_refl _) (by omega)
  have hmc := make_c n (by omega)
  have Hn := Lib.hid hn; have Hr := Lib.hid hr; have Hz := Lib.hid hz
  clear hn hr hz
  go_enter Tryz.func53, Tryz.ntmps53
  go_wp2_with fail
  have hbox0 : (w.alloc (.cells #[.slice A n cap] 84)).heap[w.heap.size]? = some (.cells #[.slice A n cap] 84 (0, 0)) := heap_alloc_new _ _
  have hal : Below w.heap.size w (w.alloc (.cells #[.slice A n cap] 84)) := (Below.refl _ _).alloc (Nat.le_refl _) _
  have hsz1 : (w.alloc (.cells #[.slice A n cap] 84)).heap.size = w.heap.size + 1 := by simp
  generalize w.alloc (.cells #[.slice A n cap] 84) = w1 at *
  have Hal := Lib.hid hal; have Hbox := Lib.hid hbox0
  have hown0 := own_zeros w1 n (by omega)
  rw [hsz1] at hown0
  have Hown0 := Lib.hid hown0
  have hb0 : Below (w.heap.size + 1) w1 (w1.alloc (.cells (zerosI n) 3)) := (Below.refl _ _).alloc (by omega) _
  have Hb0 := Lib.hid hb0
  clear hal hbox0 hown0 hb0 hmk
  generalize w1.alloc (.cells (zerosI n) 3) = w2 at *
  go_loopw [18] (fun k wr => ∃ a : Nat, k = .int .i64 (a : Int) ∧ a ≤ n ∧ wr.ownsRow (w.heap.size + 1) 3 1 (.slice (some ⟨w.heap.size + 1, 0, none⟩) n n) n ((rg n a).map VI) ∧ Below (w.heap.size + 1) w1 wr) (fun k _ => n - (intOf k).toNat)
  case atStart => exact ⟨0, rfl, by omega, Hown0.out, Hb0.out⟩
  case round =>
    obtain ⟨a, rfl, ha, hown, hbl⟩ := hrel
    have hbox : wr.cell? ⟨w.heap.size, 0, none⟩ = some (.slice A n cap) := by rw [cell_heap ((hbl.block _ (by omega)).trans Hbox.out)]; rfl
    have Hown := Lib.hid hown; have Hbl := Lib.hid hbl
    clear hown hbl
    by_cases hlt : a < n
    · have l1 : (a : Int) < (n : Int) := by omega
      obtain ⟨z, hz⟩ : ∃ z, zs[a]? = some z := ⟨zs[a]'(by rw [← Hn.out]; omega), List.getElem?_eq_getElem _⟩
      have hz0 : ¬ z < 0 := by have := Hz.out z (List.mem_of_getElem? hz); omega
      obtain ⟨b, off, hA, hbB, hcz⟩ := rd_get ((Hr.out.below Hal.out hB).below Hbl.out (by omega)) hz
      subst hA
      have hf := Hown.out.frozenAt a
      obtain ⟨y, hy⟩ : ∃ y, (rg n a)[a]? = some y := ⟨(rg n a)[a]'(by rw [rg_length]; exact hlt), List.getElem?_eq_getElem _⟩
      have hc := Hown.out.cellAt a (by omega)
      rw [List.getElem?_map, hy] at hc
      have hc : wr.cell? ⟨w.heap.size + 1, a, none⟩ = some (.int .i64 y) := hc
      clear hz hy
      go_wp2_with fail
      refine ⟨⟨a + 1, by congr 1, by omega, ?_, Hbl.out.trans ((Upd.setCell wr a _).below (Nat.le_refl _) (by have := Hbl.out.size; omega))⟩, by simp [intOf]; omega⟩
      rw [← rg_set n a hlt, List.map_set]
      exact (Hown.out.stored _ _).1
    · obtain rfl : a = n := by omega
      rw [rg_full] at Hown
      have hreads : Reads (w.heap.size + 1) ((List.range a).map fun i : Nat => (i : Int)) (Sp.cf zs) #[.pointer (some ⟨w.heap.size, 0, none⟩)] wr := by
        intro w' x y hu hx hy m
        obtain ⟨x', hx', rfl⟩ := List.mem_map.1 hx
        obtain ⟨y', hy', rfl⟩ := List.mem_map.1 hy
        have hbw : Below (w.heap.size + 1) w1 w' := Hbl.out.trans (hu.below (Nat.le_refl _) (by have := Hbl.out.size; omega))
        have hbox' : w'.cell? ⟨w.heap.size, 0, none⟩ = some (.slice A a cap) := by rw [cell_heap ((hbw.block _ (by omega)).trans Hbox.out)]; rfl
        exact cmp_calls w.heap.size a cap B x' y' A zs (w'.drewN m) Hn.out (List.mem_range.1 hx') (List.mem_range.1 hy') hbox' (((Hr.out.below Hal.out hB).below hbw (by omega)).below (below_drewN (Below.refl _ _) m) (by have := hbw.size; omega))
      have Hreads := Lib.hid hreads
      clear hreads hlt ha
      have hsr := Hbl.out.size
      go_wp2_with fail
      refine (sortStable_small (w.heap.size + 1) a a (w.heap.size + 1) ((List.range a).map fun i : Nat => (i : Int)) (Sp.cf zs) #[.pointer (some ⟨w.heap.size, 0, none⟩)] wr (by simp) hm Hown.out Hreads.out).mono ?_
      rintro e w4 ⟨rfl, hown4, hu4⟩
      obtain ⟨hmem, hlen⟩ := Sp.insN_mem (fun x y => decide (Sp.cf zs x y < 0)) 0 (a - 1) 1 ((List.range a).map fun i : Nat => (i : Int)) (by simp; omega)
      have hT : ∀ z ∈ Sp.insN (fun x y => decide (Sp.cf zs x y < 0)) 0 (a - 1) 1 ((List.range a).map fun i : Nat => (i : Int)), ∃ t : Nat, t < a ∧ z = (t : Int) := fun z hz => by
        obtain ⟨t, ht, rfl⟩ := List.mem_map.1 (hmem z hz)
        exact ⟨t, List.mem_range.1 ht, rfl⟩
      have hlen : (Sp.insN (fun x y => decide (Sp.cf zs x y < 0)) 0 (a - 1) 1 ((List.range a).map fun i : Nat => (i : Int))).length = a := by rw [hlen]; simp
      generalize hTT : Sp.insN (fun x y => decide (Sp.cf zs x y < 0)) 0 (a - 1) 1 ((List.range a).map fun i : Nat => (i : Int)) = T at *
      have HTT := Lib.hid hTT; have HT := Lib.hid hT; have Hlen := Lib.hid hlen; have Hown4 := Lib.hid hown4
      have hb4 : Below (w.heap.size + 1) w1 w4 := Hbl.out.trans (hu4.below (Nat.le_refl _) (by omega))
      have hbox4 : w4.cell? ⟨w.heap.size, 0, none⟩ = some (.slice A a cap) := by rw [cell_heap ((hb4.block _ (by omega)).trans Hbox.out)]; rfl
      have Hb4 := Lib.hid hb4
      have HLT := Lib.hid (show w.heap.size + 1 < w4.heap.size from by have := Hown4.out.2; rcases this with ⟨h, _⟩ | ⟨i, _, _, h, _, hb, _⟩; (· cases h); (· injection h with h1; injection h1 with h2; injection h2 with h3; have := Array.getElem?_eq_some_iff.1 hb; obtain ⟨h4, _⟩ := this; omega))
      have hs4 := hb4.size
      clear hTT hT hlen hown4 hu4 hmem hb4 Hown Hbl Hreads hbox
      go_wp2_with fail
      have hownC := own_zerosC w4 a (by omega)
      have hbC : Below w4.heap.size w4 (w4.alloc (.cells (zerosC a) 116)) := (Below.refl _ _).alloc (Nat.le_refl _) _
      have HownC := Lib.hid hownC; have HbC := Lib.hid hbC
      have HownT := Lib.hid (own_below Hown4.out hbC (Nat.le_refl _))
      clear hownC hbC hmc hbox4
      generalize w4.alloc (.cells (zerosC a) 116) = w5 at *
      go_loopw [38] (fun k wr => ∃ q : Nat, k = .int .i64 (q : Int) ∧ q ≤ a ∧ wr.ownsRow w4.heap.size 116 1 (.slice (some ⟨w4.heap.size, 0, none⟩) a a) a ((Sp.pl T a q).map VC) ∧ wr.ownsRow (w.heap.size + 1) 3 1 (.slice (some ⟨w.heap.size + 1, 0, none⟩) a a) a (T.map VI) ∧ Below w4.heap.size w4 wr) (fun k _ => a - (intOf k).toNat)
      case atStart => exact ⟨0, rfl, by omega, HownC.out, HownT.out, HbC.out⟩
      case round =>
        obtain ⟨q, rfl, hq, hoc, hot, hbl⟩ := hrel
        have Hoc := Lib.hid hoc; have Hot := Lib.hid hot; have Hbl := Lib.hid hbl
        clear hoc hot hbl
        by_cases hlt : q < a
        · have l1 : (q : Int) < (a : Int) := by omega
          obtain ⟨t, ht, hTq⟩ : ∃ t : Nat, t < a ∧ T[q]? = some (t : Int) := by
            have hql : q < T.length := by rw [Hlen.out]; exact hlt
            obtain ⟨t, ht, he⟩ := HT.out (T[q]'hql) (List.getElem_mem _)
            exact ⟨t, ht, by rw [List.getElem?_eq_getElem hql, he]⟩
          have cT := Hot.out.cellAt q (by omega)
          rw [List.getElem?_map, hTq] at cT
          have cT : wr.cell? ⟨w.heap.size + 1, q, none⟩ = some (.int .i64 (t : Int)) := cT
          have HTq := Lib.hid hTq
          have t1 : (t : Int) < (a : Int) := by omega
          clear hTq
          go_wp2_with fail
          refine (Spot_calls q (by omega) wr).mono ?_
          rintro e w6 ⟨rfl, kd, rfl⟩
          have Hoc6 := Lib.hid (own_below Hoc.out (below_drewN (Below.refl _ _) kd) (Nat.le_refl _)); have Hot6 := Lib.hid (own_below Hot.out (below_drewN (Below.refl _ _) kd) (Nat.le_refl _)); have Hbl6 := Lib.hid (below_drewN Hbl.out kd)
          generalize wr.drewN kd = w7 at *
          obtain ⟨y, hy⟩ : ∃ y, (Sp.pl T a q)[t]? = some y := ⟨(Sp.pl T a q)[t]'(by rw [Sp.pl_length]; exact ht), List.getElem?_eq_getElem _⟩
          have cC := Hoc6.out.cellAt t (by omega)
          rw [List.getElem?_map, hy] at cC
          have cC : w7.cell? ⟨w4.heap.size, t, none⟩ = some (VC y) := cC
          have fC := Hoc6.out.frozenAt t
          have Hpl := Lib.hid (show Sp.pl T a (q + 1) = (Sp.pl T a q).set t (fv (Sp.spot q).1, fv (Sp.spot q).2) by
            rw [Sp.pl]; congr 1
            have := HTq.out; simp [List.getD, this])
          clear hy Hoc Hot Hbl cT
          go_wp2_with fail
          refine ⟨⟨q + 1, by congr 1, by omega, ?_, own_ne Hot6.out (by have := HLT.out; omega) (Upd.setCell w7 t _), Hbl6.out.trans ((Upd.setCell w7 t _).below (Nat.le_refl _) Hbl6.out.size)⟩, by simp [intOf]; omega⟩
          rw [Hpl.out, List.map_set]
          exact (Hoc6.out.stored _ _).1
        · obtain rfl : q = a := by omega
          go_wp2_with fail
          go_ret2
          refine ⟨some ⟨w4.heap.size, 0, none⟩, q, rfl, ?_, ?_⟩
          · rw [HTT.out]
            exact own_base Hoc.out (by have := Hal.out.size; omega)
          · exact (Hal.out.trans (Hb4.out.mono (by omega))).trans (Hbl.out.mono (by omega))
theorem num_calls (x : Int) (w : World) (h0 : 0 ≤ x) (h1 : x ≤ 1000) : Calls Tryz.prog 55 #[.int .i64 x] w fun e w' => e = .returned (.int .i64 x) ∧ w = w' := by
  go_enter Tryz.func55, Tryz.ntmps55
  go_wp2_with fail
  go_ret
  exact ⟨rfl, rfl⟩
theorem lit_below (w : World) (C : Array Value) (t : TypeId) : Below w.heap.size w (w.alloc (.cells C t)) := (Below.refl _ _).alloc (Nat.le_refl _) _
/-- The chapter's examples. -/
def Sp.want : List (Nat × Nat) := [(0, 0), (4607182418800017408, 0), (4607182418800017408, 4607182418800017408), (0, 4607182418800017408), (13830554455654793216, 4607182418800017408), (13830554455654793216, 0), (13830554455654793216, 13830554455654793216), (0, 13830554455654793216), (4607182418800017408, 13830554455654793216), (4611686018427387904, 13830554455654793216)]
theorem Sp.want_get : ∀ a, a < 10 → Sp.want[a]? = some (fv (Sp.spot a).1, fv (Sp.spot a).2) := by decide +kernel
theorem two_n : Fl.IsN 4611686018427387904 2 := ⟨false, 51, by decide, by decide, by decide⟩
theorem mtwo_n : Fl.IsN 13835058055282163712 (-2) := ⟨true, 51, by decide, by decide, by decide⟩
theorem idx24 : Sp.IdxIs 24 2 (-2) := ⟨2, 3, 3, by decide, by decide, by decide, by decide, by decide⟩
theorem first_pl : Sp.pl (Sp.insN (fun x y => decide (Sp.cf [1, 2, 0, 2] x y < 0)) 0 (4 - 1) 1 ((List.range 4).map fun i : Nat => (i : Int))) 4 4 =
    [(4607182418800017408, 4607182418800017408), (0, 0), (0, 4607182418800017408), (4607182418800017408, 0)] := by decide +kernel
theorem own1_fv (v : Int) (u : Int) (h : v.natAbs < 2 ^ 53) (k : u.natAbs < 2 ^ 53) : Own1 (fv v, fv u) := ⟨ord_self (fv_n v h), ord_self (fv_n u k)⟩
theorem first_side : Sp.side 10 = 5 := by decide +kernel
theorem Sp.spot_small (i : Nat) (hi : i < 16777216) : (Sp.spot i).1.natAbs < 2 ^ 53 ∧ (Sp.spot i).2.natAbs < 2 ^ 53 := by
  by_cases h0 : i = 0
  · subst h0; decide
  obtain ⟨r, s, al, h1, h2, h3, h4, -, -, -⟩ := Sp.spot_parts h0
  rw [Sp.spot_eq h1 h2 h3 h4]
  have hr : r ≤ 16777216 := by
    have : (2 * r - 1) * 1 ≤ (2 * r - 1) * (2 * r - 1) := Nat.mul_le_mul_left _ (by omega)
    omega
  exact tn_small s _ _ (2 ^ 53) (by omega) (by omega)
theorem rd_lit (w : World) (C : Array Value) (t : TypeId) (vs : List Value) (h : C.toList = vs) : Rd (w.alloc (.cells C t)) (w.heap.size + 1) (some ⟨w.heap.size, 0, none⟩) vs := rd_fresh w _ C t (0, 0) vs rfl h
set_option maxHeartbeats 4000000 in
theorem first_calls (w : World) : Calls Tryz.prog 52 #[] w fun e w' => e = .returned (.bool true) ∧ Below w.heap.size w w' := by
  go_enter Tryz.func52, Tryz.ntmps52
  go_wp2_with fail
  have hb1 := lit_below w #[.complex .f64 0 0, .complex .f64 4607182418800017408 0, .complex .f64 4607182418800017408 4607182418800017408, .complex .f64 0 4607182418800017408, .complex .f64 13830554455654793216 4607182418800017408, .complex .f64 13830554455654793216 0, .complex .f64 13830554455654793216 13830554455654793216, .complex .f64 0 13830554455654793216, .complex .f64 4607182418800017408 13830554455654793216, .complex .f64 4611686018427387904 13830554455654793216] 116
  have hr1 := rd_lit w #[.complex .f64 0 0, .complex .f64 4607182418800017408 0, .complex .f64 4607182418800017408 4607182418800017408, .complex .f64 0 4607182418800017408, .complex .f64 13830554455654793216 4607182418800017408, .complex .f64 13830554455654793216 0, .complex .f64 13830554455654793216 13830554455654793216, .complex .f64 0 13830554455654793216, .complex .f64 4607182418800017408 13830554455654793216, .complex .f64 4611686018427387904 13830554455654793216] 116 (Sp.want.map VC) rfl
  have hs1 : (w.alloc (.cells #[.complex .f64 0 0, .complex .f64 4607182418800017408 0, .complex .f64 4607182418800017408 4607182418800017408, .complex .f64 0 4607182418800017408, .complex .f64 13830554455654793216 4607182418800017408, .complex .f64 13830554455654793216 0, .complex .f64 13830554455654793216 13830554455654793216, .complex .f64 0 13830554455654793216, .complex .f64 4607182418800017408 13830554455654793216, .complex .f64 4611686018427387904 13830554455654793216] 116)).heap.size = w.heap.size + 1 := by simp
  generalize w.alloc (.cells #[.complex .f64 0 0, .complex .f64 4607182418800017408 0, .complex .f64 4607182418800017408 4607182418800017408, .complex .f64 0 4607182418800017408, .complex .f64 13830554455654793216 4607182418800017408, .complex .f64 13830554455654793216 0, .complex .f64 13830554455654793216 13830554455654793216, .complex .f64 0 13830554455654793216, .complex .f64 4607182418800017408 13830554455654793216, .complex .f64 4611686018427387904 13830554455654793216] 116) = w1 at *
  have Hb1 := Lib.hid hb1; have Hr1 := Lib.hid hr1
  clear hb1 hr1
  go_loopw [2] (fun i wr => ∃ a : Nat, i = .int .i64 (a : Int) ∧ a ≤ 10 ∧ ∃ k, wr = w1.drewN k) (fun i _ => 10 - (intOf i).toNat)
  case atStart => exact ⟨0, rfl, by omega, 0, rfl⟩
  case round =>
    obtain ⟨a, rfl, ha, hd⟩ := hrel
    have Hd := Lib.hid hd; clear hd
    by_cases hlt : a < 10
    · have q1 : (a : Int) < 10 := by omega
      obtain ⟨s1, s2⟩ := Sp.spot_small a (by omega)
      obtain ⟨o1, o2⟩ := own1_fv (Sp.spot a).1 (Sp.spot a).2 s1 s2
      have hg := Sp.want_get a hlt
      obtain ⟨b, off, he, hb, hc⟩ := rd_getc (w := wr) (by obtain ⟨d, rfl⟩ := Hd.out; exact Hr1.out) hg
      injection he with he; injection he with e1 e2
      subst e1 e2
      clear hg
      go_wp2_with fail
      refine (Spot_calls a (by omega) wr).mono ?_
      rintro e w2 ⟨rfl, k2, rfl⟩
      have Hd2 := Lib.hid (show ∃ k, wr.drewN k2 = w1.drewN k by obtain ⟨d, rfl⟩ := Hd.out; exact ⟨_, World.drewN_drewN _ _ _⟩)
      have hc2 : (wr.drewN k2).cell? ⟨w.heap.size, 0 + a, none⟩ = some (VC (fv (Sp.spot a).1, fv (Sp.spot a).2)) := hc
      generalize wr.drewN k2 = w2 at *
      rw [Nat.zero_add] at hc2
      clear hc
      go_wp2_with fail
      exact ⟨⟨a + 1, by congr 1, by omega, Hd2.out⟩, by simp [intOf]; omega⟩
    · have q1 : ¬ (a : Int) < 10 := by omega
      have Hbr : Hid (Below w.heap.size w wr) := Lib.hid (by obtain ⟨d, rfl⟩ := Hd.out; exact below_drewN Hb1.out d)
      have hsr : w.heap.size + 1 ≤ wr.heap.size := by obtain ⟨d, rfl⟩ := Hd.out; show _ ≤ w1.heap.size; omega
      clear Hd Hb1 Hr1 hs1
      go_wp2_with fail
      refine (Index_yes 4611686018427387904 13835058055282163712 24 2 (-2) two_n mtwo_n (by decide) (by decide) (by decide) (by decide) idx24 wr).mono ?_
      rintro e w2 ⟨rfl, rfl⟩
      go_wp2_with fail
      have hb3 := lit_below wr #[.int .i64 1, .int .i64 2, .int .i64 0, .int .i64 2] 3
      have hs3 : (wr.alloc (.cells #[.int .i64 1, .int .i64 2, .int .i64 0, .int .i64 2] 3)).heap.size = wr.heap.size + 1 := by simp
      have hr3 := rd_lit wr #[.int .i64 1, .int .i64 2, .int .i64 0, .int .i64 2] 3 ([1, 2, 0, 2].map VI) rfl
      generalize wr.alloc (.cells #[.int .i64 1, .int .i64 2, .int .i64 0, .int .i64 2] 3) = w3 at *
      have Hb3 := Lib.hid (Hbr.out.trans (hb3.mono (by omega)))
      refine (place_small (some ⟨wr.heap.size, 0, none⟩) 4 4 (wr.heap.size + 1) [1, 2, 0, 2] w3 rfl (by decide) (by decide) (by decide) (by omega) hr3).mono ?_
      rintro e w4 ⟨A4, cap4, rfl, hown4, hb4⟩
      rw [first_pl] at hown4
      have Hb4 := Lib.hid (Hb3.out.trans (hb4.mono (by omega)))
      have hs4 := hb4.size
      have Hown4 := Lib.hid hown4
      clear hb3 hr3 hb4 hown4 Hb3 Hbr
      go_wp2_with fail
      have hb5 := lit_below w4 #[.complex .f64 4607182418800017408 4607182418800017408, .complex .f64 0 0, .complex .f64 0 4607182418800017408, .complex .f64 4607182418800017408 0] 116
      have hr5 := rd_lit w4 #[.complex .f64 4607182418800017408 4607182418800017408, .complex .f64 0 0, .complex .f64 0 4607182418800017408, .complex .f64 4607182418800017408 0] 116 ([(4607182418800017408, 4607182418800017408), (0, 0), (0, 4607182418800017408), (4607182418800017408, 0)].map VC) rfl
      have hr4 := own_rd (own_below Hown4.out hb5 (Nat.le_refl _))
      generalize w4.alloc (.cells #[.complex .f64 4607182418800017408 4607182418800017408, .complex .f64 0 0, .complex .f64 0 4607182418800017408, .complex .f64 4607182418800017408 0] 116) = w5 at *
      have Hb5 := Lib.hid (Hb4.out.trans (hb5.mono (by omega)))
      refine (sameC_calls A4 (some ⟨w4.heap.size, 0, none⟩) 4 cap4 4 _ _ [(4607182418800017408, 4607182418800017408), (0, 0), (0, 4607182418800017408), (4607182418800017408, 0)] w5 rfl (by decide) (by intro z hz; simp at hz; rcases hz with rfl | rfl | rfl | rfl <;> exact ⟨by decide, by decide⟩) hr4 hr5).mono ?_
      rintro e w6 ⟨rfl, k6, rfl⟩
      have Hb6 := Lib.hid (below_drewN Hb5.out k6)
      generalize w5.drewN k6 = w6 at *
      clear hb5 hr5 hr4 Hb4 Hb5 Hown4
      have hside := Side_calls 10 (by decide) (by decide)
      rw [first_side] at hside
      have Hside := Lib.hid hside
      clear hside
      go_wp2_with (first
        | (go_at_call 55; refine (num_calls 0 _ (by omega) (by omega)).mono ?_; rintro e w' ⟨rfl, rfl⟩)
        | (go_at_call 96; refine (Hside.out _).mono ?_; rintro e w' ⟨rfl, rfl⟩))
      go_ret
      exact ⟨rfl, Hb6.out⟩
abbrev VB (b : Bool) : Value := .bool b
theorem rd_getb {w : World} {B : Nat} {A : Option Addr} {zs : List Bool} (h : Rd w B A (zs.map VB)) {k : Nat} {z : Bool} (hk : zs[k]? = some z) : ∃ b off, A = some ⟨b, off, none⟩ ∧ b < B ∧ w.cell? ⟨b, off + k, none⟩ = some (.bool z) :=
  h k _ (by rw [List.getElem?_map, hk]; rfl)
theorem Sp.spot_le (i : Nat) (hi : i < 16777216) : ∃ r : Nat, max ((Sp.spot i).1.natAbs : Int) ((Sp.spot i).2.natAbs : Int) = r ∧ r ≤ 2048 ∧ i < (2 * r + 1) * (2 * r + 1) ∧ (r = 0 ∨ (2 * r - 1) * (2 * r - 1) ≤ i) := by
  by_cases h0 : i = 0
  · subst h0; exact ⟨0, by decide, by omega, by omega, Or.inl rfl⟩
  · obtain ⟨r, h1, h2, h3, h4⟩ := Sp.idx_ring (Sp.spot_idx h0)
    refine ⟨r, h1, ?_, h4, Or.inr h3⟩
    rcases Nat.lt_or_ge 2048 r with h | h
    · have := Nat.mul_le_mul (show 4096 ≤ 2 * r - 1 by omega) (show 4096 ≤ 2 * r - 1 by omega); omega
    · exact h
/-- The sum of what is kept. -/
def Sp.cs (f : Nat → Int) (K : Nat → Bool) : Nat → Int
  | 0 => 0
  | n + 1 => if K n then Sp.cs f K n + f n else Sp.cs f K n
theorem Sp.cs_le (f : Nat → Int) (K : Nat → Bool) (m : Nat) (B : Int) (hB : 0 ≤ B) (hK : ∀ i, K i = true → i < m) (hf : ∀ i, -B ≤ f i ∧ f i ≤ B) : ∀ n, -(min n m : Nat) * B ≤ Sp.cs f K n ∧ Sp.cs f K n ≤ (min n m : Nat) * B
  | 0 => by simp [Sp.cs]
  | n + 1 => by
    obtain ⟨h1, h2⟩ := Sp.cs_le f K m B hB hK hf n
    have hf := hf n
    unfold Sp.cs
    split
    · rename_i hk
      have := hK n hk
      rw [show min (n + 1) m = n + 1 by omega, show min n m = n by omega] at *
      have e : ((n + 1 : Nat) : Int) * B = (n : Int) * B + B := by push_cast; rw [Int.add_mul, Int.one_mul]
      rw [Int.neg_mul] at *
      omega
    · have e : (min n m : Nat) ≤ (min (n + 1) m : Nat) := by omega
      have e2 : ((min n m : Nat) : Int) * B ≤ ((min (n + 1) m : Nat) : Int) * B := Int.mul_le_mul_of_nonneg_right (by omega) hB
      rw [Int.neg_mul] at *
      omega
theorem add_n {x y : Nat} {u v : Int} (hx : Fl.IsN x u) (hy : Fl.IsN y v) (hz : (u + v).natAbs < 2 ^ 53) : ∃ r, Ieee.double.add x y = some r ∧ Fl.IsN r (u + v) := by
  obtain ⟨r, h1, h2, _⟩ := hx.add hy hz
  exact ⟨r, h1, h2.n hz⟩
/-- The places that are handed in. -/
def Sp.cl (f g : Nat → Int) (m : Nat) : List (Nat × Nat) := (List.range m).map fun i => (fv (f i), fv (g i))
theorem Sp.cl_get (f g : Nat → Int) (m i : Nat) (h : i < m) : (Sp.cl f g m)[i]? = some (fv (f i), fv (g i)) := by
  unfold Sp.cl; rw [List.getElem?_map, List.getElem?_range h]; rfl
set_option maxHeartbeats 4000000 in
theorem Centre_calls (f g : Nat → Int) (A A' : Option Addr) (m cap n cap' B B' : Nat) (ks : List Bool) (w : World) (hm : m ≤ 3000) (hn : n = ks.length) (hn2 : n ≤ 140737488351232) (hf : ∀ i, -4294967296 ≤ f i ∧ f i ≤ 4294967296) (hg : ∀ i, -4294967296 ≤ g i ∧ g i ≤ 4294967296)
    (hr : Rd w B A ((Sp.cl f g m).map VC)) (hr' : Rd w B' A' (ks.map VB)) :
    Calls Tryz.prog 58 #[.slice A m cap, .slice A' n cap'] w fun e w' => (∃ P Q, e = .returned (.tuple #[.complex .f64 P Q, .int .i64 (Sp.cs (fun _ => 1) (fun i => ks.getD i false && decide (i < m)) n)]) ∧
      Fl.IsN P (Sp.cs f (fun i => ks.getD i false && decide (i < m)) n) ∧ Fl.IsN Q (Sp.cs g (fun i => ks.getD i false && decide (i < m)) n)) ∧ ∃ k, w' = w.drewN k := by
  have hK : ∀ i, (ks.getD i false && decide (i < m)) = true → i < m := fun i h => by simp at h; exact h.2
  have HB1 := Lib.hid (Sp.cs_le f _ m 4294967296 (by decide) hK hf)
  have HB2 := Lib.hid (Sp.cs_le g _ m 4294967296 (by decide) hK hg)
  have HB3 := Lib.hid (Sp.cs_le (fun _ => 1) _ m 1 (by decide) hK (fun _ => by decide))
  have HK := Lib.hid (fun i => show (ks.getD i false && decide (i < m)) = (fun i => ks.getD i false && decide (i < m)) i from rfl)
  generalize (fun i => ks.getD i false && decide (i < m)) = K at *
  have Hn := Lib.hid hn; have Hr := Lib.hid hr; have Hr' := Lib.hid hr'; have Hf := Lib.hid hf; have Hg := Lib.hid hg
  clear hn hr hr' hK hf hg
  go_enter Tryz.func58, Tryz.ntmps58
  go_wp2_with fail
  go_loopw [6, 7, 8, 13] (fun x y c i wr => ∃ (a P Q : Nat) (C : Int), i = .int .i64 (a : Int) ∧ a ≤ n ∧ x = .float .f64 P ∧ y = .float .f64 Q ∧ c = .int .i64 C ∧ C = Sp.cs (fun _ => 1) K a ∧ Fl.IsN P (Sp.cs f K a) ∧ Fl.IsN Q (Sp.cs g K a) ∧ ∃ k, wr = w.drewN k) (fun _ _ _ i _ => n - (intOf i).toNat)
  case atStart => exact ⟨0, 0, 0, 0, rfl, by omega, rfl, rfl, rfl, rfl, zero_n, zero_n, 0, rfl⟩
  case round =>
    obtain ⟨a, P, Q, C, rfl, ha, rfl, rfl, rfl, hC, hP, hQ, hd⟩ := hrel
    have HC := Lib.hid hC; have HP := Lib.hid hP; have HQ := Lib.hid hQ; have Hd := Lib.hid hd
    have cb := HB3.out a
    rw [← hC] at cb
    have cb1 : -3000 ≤ C ∧ C ≤ 3000 := by omega
    clear hC hP hQ hd cb
    obtain ⟨cb1, cb2⟩ := cb1
    by_cases hlt : a < n
    · have q1 : (a : Int) < (n : Int) := by omega
      obtain ⟨z, hz⟩ : ∃ z, ks[a]? = some z := ⟨ks[a]'(by rw [← Hn.out]; omega), List.getElem?_eq_getElem _⟩
      obtain ⟨b, off, rfl, hb, hc1⟩ := rd_getb (w := wr) (by obtain ⟨d, rfl⟩ := Hd.out; exact Hr'.out) hz
      have hKa := HK.out a
      rw [show ks.getD a false = z by simp [List.getD, hz]] at hKa
      have HKa := Lib.hid hKa
      clear hz hKa
      have l0 : ∀ F : Nat → Int, K a = false → Sp.cs F K (a + 1) = Sp.cs F K a := fun F h => by show (if K a then _ else _) = _; rw [h]; rfl
      have l1 : ∀ F : Nat → Int, K a = true → Sp.cs F K (a + 1) = Sp.cs F K a + F a := fun F h => by show (if K a then _ else _) = _; rw [h]; rfl
      have L0 := Lib.hid l0; have L1 := Lib.hid l1
      clear l0 l1
      cases z with
      | false =>
        have k0 : K a = false := by rw [← HKa.out]; rfl
        have K0 := Lib.hid k0
        clear k0
        go_wp2_with fail
        exact ⟨⟨a + 1, P, Q, C, by congr 1, by omega, rfl, rfl, rfl, by rw [L0.out _ K0.out]; exact HC.out, by rw [L0.out _ K0.out]; exact HP.out, by rw [L0.out _ K0.out]; exact HQ.out, Hd.out⟩, by simp [intOf]; omega⟩
      | true =>
        by_cases hlm : a < m
        · have k0 : K a = true := by rw [← HKa.out]; simp [hlm]
          have q2 : (a : Int) < (m : Int) := by omega
          obtain ⟨b2, off2, rfl, hb2, hc2⟩ := rd_getc (w := wr) (by obtain ⟨d, rfl⟩ := Hd.out; exact Hr.out) (Sp.cl_get f g m a hlm)
          have m1 := HB1.out (a + 1); have m2 := HB2.out (a + 1)
          rw [L1.out _ k0] at m1 m2
          have f1 := Hf.out a; have f2 := Hg.out a
          obtain ⟨P', p1, p2⟩ := add_n HP.out (fv_n (f a) (by omega)) (by omega)
          obtain ⟨Q', q3, q4⟩ := add_n HQ.out (fv_n (g a) (by omega)) (by omega)
          have g1 := fun w => run_float_arith (P := Tryz.prog) w .add 174 .f64 _ _ _ p1
          have g2 := fun w => run_float_arith (P := Tryz.prog) w .add 174 .f64 _ _ _ q3
          have K0 := Lib.hid k0; have P2 := Lib.hid p2; have Q2 := Lib.hid q4
          clear k0 p1 p2 q3 q4 f1 f2 m1 m2
          go_wp2_with fail
          have Hd2 := Lib.hid (fun q => show ∃ k, wr.drewN q = w.drewN k by obtain ⟨d, rfl⟩ := Hd.out; exact ⟨_, World.drewN_drewN _ _ _⟩)
          go_big_quiet (fail)
          go_wp2_with fail
          exact ⟨⟨a + 1, P', Q', C + 1, by congr 1, by omega, rfl, rfl, rfl, by rw [L1.out _ K0.out, HC.out], by rw [L1.out _ K0.out]; exact P2.out, by rw [L1.out _ K0.out]; exact Q2.out, Hd2.out _⟩, by simp [intOf]; omega⟩
        · have k0 : K a = false := by rw [← HKa.out]; simp [hlm]
          have K0 := Lib.hid k0
          clear k0
          go_wp2_with fail
          exact ⟨⟨a + 1, P, Q, C, by congr 1, by omega, rfl, rfl, rfl, by rw [L0.out _ K0.out]; exact HC.out, by rw [L0.out _ K0.out]; exact HP.out, by rw [L0.out _ K0.out]; exact HQ.out, Hd.out⟩, by simp [intOf]; omega⟩
    · obtain rfl : a = n := by omega
      go_wp2_with fail
      go_ret2
      refine ⟨⟨P, Q, ?_, HP.out, HQ.out⟩, Hd.out⟩
      rw [← HC.out]; rfl
end Go.Proofs.YtmeoafodcniliaaGreatDoor
