/- The walk around nought: plain maths -/
import Derived.Test.YtmeoafodcniliaaGreatDoorFlM
namespace Go.Proofs.YtmeoafodcniliaaGreatDoor.C24
set_option linter.unusedSimpArgs false
set_option linter.unusedVariables false
namespace Sp
/-- The square root, rounded down. -/
def isq : Nat → Nat
  | 0 => 0
  | n + 1 => if (isq n + 1) * (isq n + 1) ≤ n + 1 then isq n + 1 else isq n
theorem isq_spec : ∀ n, isq n * isq n ≤ n ∧ n < (isq n + 1) * (isq n + 1)
  | 0 => by decide
  | n + 1 => by
    have ih := isq_spec n
    unfold isq
    split
    · rename_i h
      refine ⟨h, ?_⟩
      have : (isq n + 1 + 1) * (isq n + 1 + 1) = (isq n + 1) * (isq n + 1) + 2 * (isq n + 1) + 1 := by simp only [Nat.add_mul, Nat.mul_add]; omega
      omega
    · rename_i h
      exact ⟨by omega, by omega⟩
theorem isq_eq {n r : Nat} (h1 : r * r ≤ n) (h2 : n < (r + 1) * (r + 1)) : isq n = r := by
  obtain ⟨g1, g2⟩ := isq_spec n
  rcases Nat.lt_trichotomy (isq n) r with h | h | h
  · have := Nat.mul_le_mul (show isq n + 1 ≤ r by omega) (show isq n + 1 ≤ r by omega); omega
  · exact h
  · have := Nat.mul_le_mul (show r + 1 ≤ isq n by omega) (show r + 1 ≤ isq n by omega); omega
/-- (x, y) turned to the left so many times. -/
def tn (side : Nat) (x y : Int) : Int × Int := match side with | 0 => (x, y) | 1 => (-y, x) | 2 => (-x, -y) | _ => (y, -x)
def ring (i : Nat) : Nat := (isq i + 1) / 2
def spot (i : Nat) : Int × Int := if i = 0 then (0, 0) else tn ((i - (2 * ring i - 1) * (2 * ring i - 1)) / (2 * ring i)) (ring i) (((i - (2 * ring i - 1) * (2 * ring i - 1)) % (2 * ring i) : Nat) + 1 - (ring i : Int))
theorem odd_sq (r : Nat) (h : 1 ≤ r) : (2 * r - 1) * (2 * r - 1) + 4 * r = 4 * (r * r) + 1 := by
  obtain ⟨k, rfl⟩ : ∃ k, r = k + 1 := ⟨r - 1, by omega⟩
  rw [show 2 * (k + 1) - 1 = 2 * k + 1 by omega]
  simp only [Nat.add_mul, Nat.mul_add, Nat.mul_assoc, Nat.mul_left_comm k 2 k]
  omega
theorem even_sq (r : Nat) : (2 * r) * (2 * r) = 4 * (r * r) := by
  simp only [Nat.mul_assoc, Nat.mul_left_comm r 2 r]; omega
theorem next_sq (r : Nat) : (2 * r + 1) * (2 * r + 1) = 4 * (r * r) + 4 * r + 1 := by
  simp only [Nat.add_mul, Nat.mul_add, Nat.mul_assoc, Nat.mul_left_comm r 2 r]; omega
/-- The ring of a step, from where it begins. -/
theorem ring_eq {i r : Nat} (hr : 1 ≤ r) (h1 : (2 * r - 1) * (2 * r - 1) ≤ i) (h2 : i < (2 * r + 1) * (2 * r + 1)) : ring i = r := by
  unfold ring
  rcases Nat.lt_or_ge i ((2 * r) * (2 * r)) with h | h
  · rw [isq_eq h1 (by rw [show 2 * r - 1 + 1 = 2 * r by omega]; exact h)]; omega
  · rw [isq_eq h h2]; omega
theorem ring_pos {i : Nat} (h : i ≠ 0) : 1 ≤ ring i := by
  have : isq i ≠ 0 := fun h0 => by have := (isq_spec i).2; rw [h0] at this; omega
  unfold ring; omega
theorem ring_spec {i : Nat} (h : i ≠ 0) : (2 * ring i - 1) * (2 * ring i - 1) ≤ i ∧ i < (2 * ring i + 1) * (2 * ring i + 1) := by
  obtain ⟨g1, g2⟩ := isq_spec i
  have hp := ring_pos h
  have e : isq i = 2 * ring i - 1 ∨ isq i = 2 * ring i := by unfold ring at hp ⊢; omega
  rcases e with e | e
  · rw [e] at g1 g2
    exact ⟨g1, Nat.lt_of_lt_of_le g2 (Nat.mul_le_mul (by omega) (by omega))⟩
  · rw [e] at g1 g2
    exact ⟨Nat.le_trans (Nat.mul_le_mul (by omega) (by omega)) g1, g2⟩
/-- A spot, told by its ring, its side, and how far along. -/
theorem spot_eq {i r side al : Nat} (hr : 1 ≤ r) (hs : side < 4) (ha : al < 2 * r) (h : i = (2 * r - 1) * (2 * r - 1) + 2 * r * side + al) : spot i = tn side r ((al : Int) + 1 - r) := by
  have o := odd_sq r hr
  have e := next_sq r
  have hm : 2 * r * side ≤ 2 * r * 3 := Nat.mul_le_mul_left _ (by omega)
  have hring : ring i = r := ring_eq hr (by omega) (by omega)
  have h0 : i ≠ 0 := by
    have : 1 ≤ (2 * r - 1) * (2 * r - 1) := Nat.mul_le_mul (show 1 ≤ 2 * r - 1 by omega) (show 1 ≤ 2 * r - 1 by omega)
    omega
  have hat : i - (2 * r - 1) * (2 * r - 1) = al + 2 * r * side := by omega
  unfold spot
  rw [if_neg h0, hring, hat, Nat.add_mul_div_left _ _ (by omega), Nat.div_eq_of_lt ha, Nat.zero_add, Nat.add_mul_mod_self_left, Nat.mod_eq_of_lt ha]
/-- Each step but the first has a ring, a side, and a place along it. -/
theorem spot_parts {i : Nat} (h : i ≠ 0) : ∃ r side al : Nat, 1 ≤ r ∧ side < 4 ∧ al < 2 * r ∧ i = (2 * r - 1) * (2 * r - 1) + 2 * r * side + al ∧ r = ring i ∧ side = (i - (2 * ring i - 1) * (2 * ring i - 1)) / (2 * ring i) ∧ al = (i - (2 * ring i - 1) * (2 * ring i - 1)) % (2 * ring i) := by
  obtain ⟨g1, g2⟩ := ring_spec h
  have hp := ring_pos h
  have o := odd_sq (ring i) hp
  have e := next_sq (ring i)
  generalize ring i = r at *
  have hlt : i - (2 * r - 1) * (2 * r - 1) < 4 * (2 * r) := by omega
  have hdm := Nat.div_add_mod (i - (2 * r - 1) * (2 * r - 1)) (2 * r)
  refine ⟨r, _, _, hp, ?_, Nat.mod_lt _ (by omega), by omega, rfl, rfl, rfl⟩
  exact (Nat.div_lt_iff_lt_mul (by omega)).2 hlt
/-- Where the walk is, m steps into its leg pair l. -/
def walk (l m : Nat) : Int × Int :=
  if l % 2 = 1 then (if m ≤ l then (-((l / 2 : Nat) : Int) + m, -((l / 2 : Nat) : Int)) else (((l / 2 : Nat) : Int) + 1, -((l / 2 : Nat) : Int) + ((m : Int) - l)))
  else (if m ≤ l then (((l / 2 : Nat) : Int) - m, ((l / 2 : Nat) : Int)) else (-((l / 2 : Nat) : Int), ((l / 2 : Nat) : Int) - ((m : Int) - l)))
theorem walk_spot (l m : Nat) (hl : 1 ≤ l) (hm : m ≤ 2 * l) (hm2 : m < 2 * l) : spot (l * (l - 1) + m) = walk l m := by
  unfold walk
  rcases (by omega : l % 2 = 1 ∨ l % 2 = 0) with hp | hp
  · obtain ⟨t, rfl⟩ : ∃ t, l = 2 * t + 1 := ⟨l / 2, by omega⟩
    have e1 : (2 * t + 1) * (2 * t + 1 - 1) = 4 * (t * t) + 2 * t := by
      rw [show 2 * t + 1 - 1 = 2 * t by omega, Nat.add_mul, even_sq]; omega
    rw [if_pos (by omega), e1, show (2 * t + 1) / 2 = t by omega]
    by_cases h : m ≤ 2 * t + 1
    · rw [if_pos h]
      rcases Nat.eq_zero_or_pos t with rfl | ht
      · rcases (by omega : m = 0 ∨ m = 1) with rfl | rfl <;> decide
      · have o := odd_sq t ht
        rcases Nat.eq_zero_or_pos m with rfl | hm0
        · rw [spot_eq (r := t) (side := 2) (al := 2 * t - 1) ht (by omega) (by omega) (by omega)]
          simp only [tn]; refine Prod.ext ?_ ?_ <;> simp only <;> omega
        · rcases (by omega : m = 2 * t + 1 ∨ m ≤ 2 * t) with hm' | hm'
          · have o2 := odd_sq (t + 1) (by omega)
            have n2 := next_sq t
            rw [spot_eq (r := t + 1) (side := 0) (al := 0) (by omega) (by omega) (by omega) (by rw [show 2 * (t + 1) - 1 = 2 * t + 1 by omega]; omega)]
            simp only [tn]; refine Prod.ext ?_ ?_ <;> simp only <;> omega
          · rw [spot_eq (r := t) (side := 3) (al := m - 1) ht (by omega) (by omega) (by omega)]
            simp only [tn]; refine Prod.ext ?_ ?_ <;> simp only <;> omega
    · rw [if_neg h]
      have n2 := next_sq t
      rw [spot_eq (r := t + 1) (side := 0) (al := m - (2 * t + 1)) (by omega) (by omega) (by omega) (by rw [show 2 * (t + 1) - 1 = 2 * t + 1 by omega]; omega)]
      simp only [tn]; refine Prod.ext ?_ ?_ <;> simp only <;> omega
  · obtain ⟨t, rfl⟩ : ∃ t, l = 2 * t := ⟨l / 2, by omega⟩
    have ht : 1 ≤ t := by omega
    have o := odd_sq t ht
    have e1 : (2 * t) * (2 * t - 1) + 2 * t = 4 * (t * t) := by
      have h2 : t ≤ t * t := Nat.le_mul_of_pos_left t ht
      have h3 := even_sq t
      rw [Nat.mul_sub, Nat.mul_one]; omega
    rw [if_neg (by omega), show (2 * t) / 2 = t by omega]
    by_cases h : m ≤ 2 * t
    · rw [if_pos h]
      rcases Nat.eq_zero_or_pos m with rfl | hm0
      · rw [spot_eq (r := t) (side := 0) (al := 2 * t - 1) ht (by omega) (by omega) (by omega)]
        simp only [tn]; refine Prod.ext ?_ ?_ <;> simp only <;> omega
      · rw [spot_eq (r := t) (side := 1) (al := m - 1) ht (by omega) (by omega) (by omega)]
        simp only [tn]; refine Prod.ext ?_ ?_ <;> simp only <;> omega
    · rw [if_neg h, spot_eq (r := t) (side := 2) (al := m - 1 - 2 * t) ht (by omega) (by omega) (by omega)]
      simp only [tn]; refine Prod.ext ?_ ?_ <;> simp only <;> omega
/-- Which way the walk goes on leg pair l, half h. -/
def dir (l h : Nat) : Int × Int := tn h (if l % 2 = 1 then 1 else -1) 0
theorem dir_succ (l h : Nat) (hh : h < 2) : dir l (h + 1) = (-(dir l h).2, (dir l h).1) := by
  unfold dir; rcases (by omega : h = 0 ∨ h = 1) with rfl | rfl <;> simp [tn]
theorem dir_next (l : Nat) : dir (l + 1) 0 = dir l 2 := by
  unfold dir; (repeat' split) <;> first | omega | simp [tn]
theorem dir_small (l h : Nat) : -1 ≤ (dir l h).1 ∧ (dir l h).1 ≤ 1 ∧ -1 ≤ (dir l h).2 ∧ (dir l h).2 ≤ 1 := by
  unfold dir tn; split <;> split <;> simp
theorem walk_step (l h b : Nat) (hh : h < 2) (hb : b ≤ l) (hb1 : 1 ≤ b) : walk l (h * l + b) = ((walk l (h * l)).1 + (dir l h).1 * b, (walk l (h * l)).2 + (dir l h).2 * b) := by
  unfold walk dir
  rcases (by omega : h = 0 ∨ h = 1) with rfl | rfl <;> simp only [Nat.zero_mul, Nat.one_mul, Nat.zero_add, tn] <;> (repeat' split) <;> first | omega | (refine Prod.ext ?_ ?_ <;> simp only <;> push_cast <;> omega)
theorem walk_end (l : Nat) (hl : 1 ≤ l) : walk l (2 * l) = walk (l + 1) 0 := by
  unfold walk
  (repeat' split) <;> first | omega | (refine Prod.ext ?_ ?_ <;> simp only <;> push_cast <;> omega)
theorem walk_small (l m : Nat) (h : m ≤ 2 * l) : (walk l m).1.natAbs ≤ 2 * l + 1 ∧ (walk l m).2.natAbs ≤ 2 * l + 1 := by
  unfold walk; split <;> split <;> simp only <;> omega
theorem leg_le {l n : Nat} (h : l * (l - 1) < n) (hn : n < 16777216) : l ≤ 4097 := by
  rcases Nat.lt_or_ge l 4098 with h1 | h1
  · omega
  · have := Nat.mul_le_mul h1 (show 4097 ≤ l - 1 by omega); omega
theorem leg_next (a : Nat) (h : 1 ≤ a) : a * (a - 1) + 2 * a = (a + 1) * (a + 1 - 1) := by
  obtain ⟨k, rfl⟩ : ∃ k, a = k + 1 := ⟨a - 1, by omega⟩
  simp only [Nat.add_sub_cancel, Nat.add_mul, Nat.mul_add]; omega
theorem walk_spot' (l m : Nat) (hl : 1 ≤ l) (hm : m ≤ 2 * l) : walk l m = spot (l * (l - 1) + m) := by
  rcases Nat.lt_or_ge m (2 * l) with h | h
  · exact (walk_spot l m hl hm h).symm
  · have : m = 2 * l := by omega
    subst this
    rw [walk_end l hl, leg_next l hl, ← walk_spot (l + 1) 0 (by omega) (by omega) (by omega)]; rfl
/-- (x, y) turned to the right so many times. -/
def tr (side : Nat) (x y : Int) : Int × Int := match side with | 0 => (x, y) | 1 => (y, -x) | 2 => (-x, -y) | _ => (-y, x)
theorem tr_succ (k : Nat) (x y : Int) (h : k < 3) : tr (k + 1) x y = ((tr k x y).2, -(tr k x y).1) := by
  rcases (by omega : k = 0 ∨ k = 1 ∨ k = 2) with rfl | rfl | rfl <;> simp [tr]
theorem tr_small (k : Nat) (x y : Int) (B : Nat) (hx : x.natAbs ≤ B) (hy : y.natAbs ≤ B) : (tr k x y).1.natAbs ≤ B ∧ (tr k x y).2.natAbs ≤ B := by
  unfold tr; split <;> simp only <;> omega
theorem tn_tr (k : Nat) (x y : Int) (h : k < 4) : tn k (tr k x y).1 (tr k x y).2 = (x, y) := by
  rcases (by omega : k = 0 ∨ k = 1 ∨ k = 2 ∨ k = 3) with rfl | rfl | rfl | rfl <;> simp [tn, tr]
theorem tr_tn (k : Nat) (x y : Int) (h : k < 4) : tr k (tn k x y).1 (tn k x y).2 = (x, y) := by
  rcases (by omega : k = 0 ∨ k = 1 ∨ k = 2 ∨ k = 3) with rfl | rfl | rfl | rfl <;> simp [tn, tr]
/-- Stands (x, y) on side s of the ring r? -/
def hit (r s : Nat) (x y : Int) : Prop := (tr s x y).1 = r ∧ -(r : Int) < (tr s x y).2
/-- i is the step at (x, y). -/
def IdxIs (i : Nat) (x y : Int) : Prop := ∃ r s al : Nat, 1 ≤ r ∧ s < 4 ∧ al < 2 * r ∧ i = (2 * r - 1) * (2 * r - 1) + 2 * r * s + al ∧ (x, y) = tn s r ((al : Int) + 1 - r)
theorem idx_spot {i : Nat} {x y : Int} (h : IdxIs i x y) : spot i = (x, y) := by
  obtain ⟨r, s, al, h1, h2, h3, h4, h5⟩ := h
  rw [spot_eq h1 h2 h3 h4, h5]
theorem spot_idx {i : Nat} (h : i ≠ 0) : IdxIs i (spot i).1 (spot i).2 := by
  obtain ⟨r, s, al, h1, h2, h3, h4, _⟩ := spot_parts h
  exact ⟨r, s, al, h1, h2, h3, h4, by rw [spot_eq h1 h2 h3 h4]⟩
theorem hit_idx {r s : Nat} {x y : Int} (hr : 1 ≤ r) (hs : s < 4) (hx : x.natAbs ≤ r) (hy : y.natAbs ≤ r) (h : hit r s x y) : ∃ al : Nat, al < 2 * r ∧ (al : Int) = (tr s x y).2 - 1 + r ∧ IdxIs ((2 * r - 1) * (2 * r - 1) + 2 * r * s + al) x y := by
  obtain ⟨h1, h2⟩ := h
  have h3 := tr_small s x y r hx hy
  refine ⟨((tr s x y).2 - 1 + r).toNat, by omega, by omega, r, s, _, hr, hs, by omega, rfl, ?_⟩
  rw [show ((((tr s x y).2 - 1 + r).toNat : Nat) : Int) + 1 - r = (tr s x y).2 by omega, ← h1, tn_tr s x y hs]
theorem some_hit {r : Nat} {x y : Int} (hr : 1 ≤ r) (h : max (x.natAbs : Int) (y.natAbs : Int) = r) : hit r 0 x y ∨ hit r 1 x y ∨ hit r 2 x y ∨ hit r 3 x y := by
  unfold hit tr; simp only; omega
theorem idx_ring {i : Nat} {x y : Int} (h : IdxIs i x y) : ∃ r : Nat, max (x.natAbs : Int) (y.natAbs : Int) = r ∧ 1 ≤ r ∧ (2 * r - 1) * (2 * r - 1) ≤ i ∧ i < (2 * r + 1) * (2 * r + 1) := by
  obtain ⟨r, s, al, h1, h2, h3, h4, h5⟩ := h
  have o := odd_sq r h1
  have n := next_sq r
  have hm : 2 * r * s ≤ 2 * r * 3 := Nat.mul_le_mul_left _ (by omega)
  refine ⟨r, ?_, h1, by omega, by omega⟩
  have e1 : x = (tn s r ((al : Int) + 1 - r)).1 := by rw [← h5]
  have e2 : y = (tn s r ((al : Int) + 1 - r)).2 := by rw [← h5]
  rcases (by omega : s = 0 ∨ s = 1 ∨ s = 2 ∨ s = 3) with rfl | rfl | rfl | rfl <;> simp only [tn] at e1 e2 <;> omega
/-- There is one step at each place. -/
theorem idx_one {i j : Nat} {x y : Int} (h : IdxIs i x y) (k : IdxIs j x y) : i = j := by
  obtain ⟨r, h1, h2, _, _⟩ := idx_ring h
  obtain ⟨r', k1, k2, _, _⟩ := idx_ring k
  obtain ⟨ra, s, al, a1, a2, a3, a4, a5⟩ := h
  obtain ⟨rb, t, be, b1, b2, b3, b4, b5⟩ := k
  have e1 : x = (tn s ra ((al : Int) + 1 - ra)).1 := by rw [← a5]
  have e2 : y = (tn s ra ((al : Int) + 1 - ra)).2 := by rw [← a5]
  have e3 : x = (tn t rb ((be : Int) + 1 - rb)).1 := by rw [← b5]
  have e4 : y = (tn t rb ((be : Int) + 1 - rb)).2 := by rw [← b5]
  have key : ra = rb ∧ s = t ∧ al = be := by
    rcases (by omega : s = 0 ∨ s = 1 ∨ s = 2 ∨ s = 3) with rfl | rfl | rfl | rfl <;> rcases (by omega : t = 0 ∨ t = 1 ∨ t = 2 ∨ t = 3) with rfl | rfl | rfl | rfl <;> simp only [tn] at e1 e2 e3 e4 <;> omega
  obtain ⟨rfl, rfl, rfl⟩ := key
  rw [a4, b4]
end Sp
end Go.Proofs.YtmeoafodcniliaaGreatDoor.C24
