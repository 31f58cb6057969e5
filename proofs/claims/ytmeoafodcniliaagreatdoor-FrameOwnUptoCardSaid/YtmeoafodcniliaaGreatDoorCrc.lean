/- The sum of 32 bits as a function on registers: plain mathematics, no program. -/
namespace Go.Proofs.YtmeoafodcniliaaGreatDoor.Crc
set_option linter.unusedSimpArgs false
set_option linter.unusedVariables false
def Pl : BitVec 32 := 0x04C11DB7#32
def step (r : BitVec 32) : BitVec 32 := if r.msb then (r <<< 1) ^^^ Pl else r <<< 1
def steps : Nat → BitVec 32 → BitVec 32
  | 0, r => r
  | n + 1, r => steps n (step r)
def byte (r : BitVec 32) (b : BitVec 8) : BitVec 32 := steps 8 (r ^^^ (b.setWidth 32 <<< 24))
def run (r : BitVec 32) (bs : List (BitVec 8)) : BitVec 32 := bs.foldl byte r
def update (c : BitVec 32) (bs : List (BitVec 8)) : BitVec 32 := ~~~ run (~~~ c) bs
def sum (bs : List (BitVec 8)) : BitVec 32 := update 0 bs
def join (a b : BitVec 32) (n : Int) : BitVec 32 := steps (8 * n.toNat) a ^^^ b

theorem step_xor (a b : BitVec 32) : step (a ^^^ b) = step a ^^^ step b := by
  have h3 : ∀ x y z : BitVec 32, x ^^^ y = (x ^^^ z) ^^^ (y ^^^ z) := by
    intro x y z
    rw [BitVec.xor_assoc, BitVec.xor_comm y z, ← BitVec.xor_assoc z z y, BitVec.xor_self, BitVec.zero_xor]
  unfold step
  rw [BitVec.msb_xor, BitVec.shiftLeft_xor_distrib]
  cases a.msb <;> cases b.msb <;> simp
  · ac_rfl
  · ac_rfl
  · exact h3 _ _ _
theorem step_zero : step 0 = 0 := by decide
theorem steps_xor (n : Nat) : ∀ a b : BitVec 32, steps n (a ^^^ b) = steps n a ^^^ steps n b := by
  induction n with
  | zero => intro a b; rfl
  | succ n ih => intro a b; simp only [steps, step_xor, ih]
theorem steps_zero (n : Nat) : steps n 0 = 0 := by
  induction n with
  | zero => rfl
  | succ n ih => rw [steps, step_zero, ih]
theorem steps_add (m n : Nat) : ∀ r, steps (m + n) r = steps n (steps m r) := by
  induction m with
  | zero => intro r; rw [Nat.zero_add]; rfl
  | succ m ih => intro r; rw [Nat.succ_add]; exact ih _
theorem steps_succ' (n : Nat) (r : BitVec 32) : steps (n + 1) r = step (steps n r) := by rw [steps_add]; rfl

/-! the table of four steps -/
def tab : List (BitVec 32) := [0x00000000, 0x04c11db7, 0x09823b6e, 0x0d4326d9, 0x130476dc, 0x17c56b6b, 0x1a864db2, 0x1e475005,
  0x2608edb8, 0x22c9f00f, 0x2f8ad6d6, 0x2b4bcb61, 0x350c9b64, 0x31cd86d3, 0x3c8ea00a, 0x384fbdbd]
def tabAt (i : BitVec 8) : BitVec 32 := tab.getD i.toNat 0
def nib (x : BitVec 32) (i : BitVec 8) : BitVec 32 := x <<< 4 ^^^ tabAt ((x >>> 28).setWidth 8 ^^^ i)
def byteT (x : BitVec 32) (y : BitVec 8) : BitVec 32 := nib (nib x (y >>> 4)) (y &&& 15#8)
def runT (x : BitVec 32) (bs : List (BitVec 8)) : BitVec 32 := bs.foldl byteT x

theorem nib_lt (x : BitVec 32) (y : BitVec 8) (h : y.toNat < 16) : ((x >>> 28).setWidth 8 ^^^ y).toNat < 16 := by
  rw [BitVec.toNat_xor, BitVec.toNat_setWidth, BitVec.toNat_ushiftRight, Nat.shiftRight_eq_div_pow]
  have := x.isLt
  have h1 : x.toNat / 2 ^ 28 < 16 := by omega
  rw [Nat.mod_eq_of_lt (by omega)]
  exact Nat.xor_lt_two_pow (n := 4) h1 h
theorem shr4_lt (y : BitVec 8) : (y >>> 4).toNat < 16 := by
  rw [BitVec.toNat_ushiftRight, Nat.shiftRight_eq_div_pow]; have := y.isLt; omega
theorem and15_lt (y : BitVec 8) : (y &&& 15#8).toNat < 16 := by
  rw [BitVec.toNat_and]; exact Nat.lt_of_le_of_lt Nat.and_le_right (by decide)
theorem tabAt_eq (i : BitVec 8) (h : i.toNat < tab.length) : tab[i.toNat] = tabAt i := by
  simp [tabAt, List.getD, List.getElem?_eq_getElem h]
/-! a matrix: what each bit becomes -/
def comb (m : Nat → BitVec 32) (x : BitVec 32) : Nat → BitVec 32
  | 0 => 0
  | k + 1 => comb m x k ^^^ (if x.getLsbD k then m k else 0)
theorem and_one (x : BitVec 32) (k : Nat) : (x >>> k &&& 1#32 ≠ 0) ↔ x.getLsbD k = true := by
  constructor
  · intro h
    rcases hb : x.getLsbD k with _ | _
    · exfalso; apply h
      ext i hi
      simp only [BitVec.getElem_and, BitVec.getElem_ushiftRight, BitVec.getElem_one, BitVec.getElem_zero]
      rcases Nat.eq_zero_or_pos i with rfl | h0
      · simp [hb]
      · simp; omega
    · rfl
  · intro h h0
    have := congrArg (fun y => BitVec.getLsbD y 0) h0
    simp [h] at this
theorem comb_succ (m : Nat → BitVec 32) (x : BitVec 32) (k : Nat) : comb m x (k + 1) = comb m x k ^^^ (if x >>> k &&& 1#32 ≠ 0 then m k else 0) := by
  rw [comb]
  by_cases h : x.getLsbD k = true
  · rw [if_pos h, if_pos ((and_one x k).2 h)]
  · rw [if_neg h, if_neg (fun h' => h ((and_one x k).1 h'))]
theorem shr_ne {x : BitVec 32} {k : Nat} (h : ¬ x >>> k = 0) : k < 32 := by
  apply Nat.lt_of_not_le; intro h1; apply h
  ext i hi
  rw [BitVec.getElem_ushiftRight, BitVec.getLsbD_of_ge _ _ (by omega : 32 ≤ k + i)]
  simp
theorem bits_of_shr {x : BitVec 32} {k : Nat} (h : x >>> k = 0) (j : Nat) (hj : k ≤ j) : x.getLsbD j = false := by
  have := congrArg (fun y => BitVec.getLsbD y (j - k)) h
  simp at this
  rw [show k + (j - k) = j by omega] at this
  exact this
theorem comb_stop (m : Nat → BitVec 32) (x : BitVec 32) (k : Nat) (h : x >>> k = 0) : ∀ d, comb m x (k + d) = comb m x k := by
  intro d
  induction d with
  | zero => rfl
  | succ d ih =>
    rw [← Nat.add_assoc, comb, bits_of_shr h (k + d) (by omega), ih]; simp
theorem comb_done (m : Nat → BitVec 32) (x : BitVec 32) (k : Nat) (hk : k ≤ 32) (h : x >>> k = 0) : comb m x 32 = comb m x k := by
  have := comb_stop m x k h (32 - k)
  rwa [show k + (32 - k) = 32 by omega] at this
/-! a function that is linear is told by what it makes of each bit -/
theorem comb_self (x : BitVec 32) : ∀ k, k ≤ 32 → ∀ j, (comb (fun i => 1#32 <<< i) x k).getLsbD j = (decide (j < k) && x.getLsbD j) := by
  intro k
  induction k with
  | zero => intro _ j; simp [comb]
  | succ k ih =>
    intro hk j
    rw [comb, BitVec.getLsbD_xor, ih (by omega)]
    by_cases hb : x.getLsbD k = true
    · rw [if_pos hb, BitVec.getLsbD_shiftLeft, BitVec.getLsbD_one]
      by_cases e : j = k
      · subst e
        have h1 : decide (j < j + 1) = true := by simp
        have h2 : decide (j < j) = false := by simp
        simp [hb, h1, h2]; omega
      · have h1 : decide (j < k + 1) = decide (j < k) := by simp; omega
        rw [h1]
        by_cases hlt : j < k
        · simp [hlt]
        · have : ¬ j - k = 0 := by omega
          simp [hlt, this]
    · rw [if_neg hb]
      have hb' : x.getLsbD k = false := by simpa using hb
      by_cases e : j = k
      · subst e; simp [hb']
      · have h1 : decide (j < k + 1) = decide (j < k) := by simp; omega
        simp [h1]
theorem comb_one (x : BitVec 32) : comb (fun i => 1#32 <<< i) x 32 = x := by
  apply BitVec.eq_of_getLsbD_eq
  intro i hi
  rw [comb_self x 32 (by omega) i]; simp [hi]
theorem map_comb (f : BitVec 32 → BitVec 32) (hx : ∀ a b, f (a ^^^ b) = f a ^^^ f b) (h0 : f 0 = 0) (m : Nat → BitVec 32) (x : BitVec 32) : ∀ k, f (comb m x k) = comb (fun i => f (m i)) x k := by
  intro k
  induction k with
  | zero => exact h0
  | succ k ih =>
    rw [comb, comb, hx, ih]
    by_cases h : x.getLsbD k = true
    · rw [if_pos h, if_pos h]
    · rw [if_neg h, if_neg h, h0]
theorem lin_eq (f : BitVec 32 → BitVec 32) (hx : ∀ a b, f (a ^^^ b) = f a ^^^ f b) (h0 : f 0 = 0) (x : BitVec 32) : comb (fun i => f (1#32 <<< i)) x 32 = f x := by
  rw [← map_comb f hx h0, comb_one]
theorem comb_steps (j : Nat) (x : BitVec 32) : comb (fun i => steps j (1#32 <<< i)) x 32 = steps j x := lin_eq _ (steps_xor j) (steps_zero j) x
/-! the doublings of a join -/
theorem div_bounds (n : Int) (k : Nat) (h1 : -9223372036854775808 ≤ n) (h2 : n ≤ 9223372036854775807) : -9223372036854775808 ≤ n / 2 ^ k ∧ n / 2 ^ k ≤ 9223372036854775807 := by
  have hp : (0 : Int) < 2 ^ k := Int.pow_pos (by decide)
  rcases Int.le_total 0 n with h | h
  · have := Int.ediv_nonneg h (Int.le_of_lt hp)
    have := Int.ediv_le_self (2 ^ k) h
    omega
  · have h3 : n ≤ n / 2 ^ k := by
      rw [Int.le_ediv_iff_mul_le hp]
      have : n * 2 ^ k ≤ n * 1 := Int.mul_le_mul_of_nonpos_left h (by omega)
      omega
    have h4 : n / 2 ^ k ≤ 0 := by
      have := Int.ediv_le_ediv hp h
      simpa using this
    omega
theorem div_div2 (n : Int) (k : Nat) : n / 2 ^ k / 2 = n / 2 ^ (k + 1) := by
  rw [Int.ediv_ediv_of_nonneg (Int.le_of_lt (Int.pow_pos (by decide))), Int.pow_succ]
theorem toNat_div (n : Int) (k : Nat) (h : 0 < n / 2 ^ k) : ∃ m : Nat, n = m ∧ n / 2 ^ k = ((m / 2 ^ k : Nat) : Int) := by
  have hp : (0 : Int) < 2 ^ k := Int.pow_pos (by decide)
  have h0 : 0 ≤ n := by
    rcases Int.le_total 0 n with h1 | h1
    · exact h1
    · have := Int.ediv_le_ediv hp h1
      simp at this; omega
  obtain ⟨m, rfl⟩ := Int.eq_ofNat_of_zero_le h0
  exact ⟨m, rfl, by simp⟩
theorem mod_pow_succ (m k : Nat) : m % 2 ^ (k + 1) = m % 2 ^ k + 2 ^ k * (m / 2 ^ k % 2) := by
  rw [Nat.pow_succ, Nat.mod_mul]
theorem mod_odd (n : Int) (k : Nat) (h : n / 2 ^ k % 2 = 1) (h0 : 0 < n / 2 ^ k) : 8 * (n.toNat % 2 ^ k) + 8 * 2 ^ k = 8 * (n.toNat % 2 ^ (k + 1)) := by
  obtain ⟨m, rfl, e⟩ := toNat_div n k h0
  rw [e] at h
  have h1 : m / 2 ^ k % 2 = 1 := by omega
  rw [Int.toNat_natCast, mod_pow_succ, h1]; omega
theorem mod_even (n : Int) (k : Nat) (h : n / 2 ^ k % 2 = 0) (h0 : 0 < n / 2 ^ k) : n.toNat % 2 ^ (k + 1) = n.toNat % 2 ^ k := by
  obtain ⟨m, rfl, e⟩ := toNat_div n k h0
  rw [e] at h
  have h1 : m / 2 ^ k % 2 = 0 := by omega
  rw [Int.toNat_natCast, mod_pow_succ, h1]; omega
theorem mod_all (n : Int) (k : Nat) (h : ¬ 0 < n / 2 ^ k) : n.toNat % 2 ^ k = n.toNat := by
  apply Nat.mod_eq_of_lt
  rcases Int.le_total n 0 with h1 | h1
  · have : n.toNat = 0 := by omega
    rw [this]; exact Nat.two_pow_pos k
  · obtain ⟨m, rfl⟩ := Int.eq_ofNat_of_zero_le h1
    rw [Int.toNat_natCast]
    have e : ((m : Int) / 2 ^ k) = ((m / 2 ^ k : Nat) : Int) := by simp
    rw [e] at h
    have h2 : m / 2 ^ k = 0 := by generalize m / 2 ^ k = q at h ⊢; omega
    rcases Nat.lt_or_ge m (2 ^ k) with h3 | h3
    · exact h3
    · have := Nat.div_pos h3 (Nat.two_pow_pos k); omega
/-! the product of two registers, bit by bit -/
def horner (a b : BitVec 32) : Nat → BitVec 32
  | 0 => 0
  | k + 1 => step (horner a b k) ^^^ (if b.getLsbD (31 - k) then a else 0)
theorem horner_succ (a b : BitVec 32) (k : Nat) : horner a b (k + 1) = step (horner a b k) ^^^ (if b.getLsbD (31 - k) = true then a else 0) := rfl
def mul (a b : BitVec 32) : BitVec 32 := horner a b 32
theorem xor_swap (a b c d : BitVec 32) : (a ^^^ b) ^^^ (c ^^^ d) = (a ^^^ c) ^^^ (b ^^^ d) := by ac_rfl
theorem horner_lin (a b b' : BitVec 32) : ∀ k, horner a (b ^^^ b') k = horner a b k ^^^ horner a b' k := by
  intro k
  induction k with
  | zero => simp [horner]
  | succ k ih =>
    rw [horner_succ, horner_succ, horner_succ, ih, step_xor, xor_swap]
    congr 1
    rw [BitVec.getLsbD_xor]
    cases b.getLsbD (31 - k) <;> cases b'.getLsbD (31 - k) <;> simp
theorem horner_linA (a a' b : BitVec 32) : ∀ k, horner (a ^^^ a') b k = horner a b k ^^^ horner a' b k := by
  intro k
  induction k with
  | zero => simp [horner]
  | succ k ih =>
    rw [horner_succ, horner_succ, horner_succ, ih, step_xor, xor_swap]
    congr 1
    cases b.getLsbD (31 - k) <;> simp
theorem mul_xor (a b b' : BitVec 32) : mul a (b ^^^ b') = mul a b ^^^ mul a b' := horner_lin a b b' 32
theorem mul_xorA (a a' b : BitVec 32) : mul (a ^^^ a') b = mul a b ^^^ mul a' b := horner_linA a a' b 32
theorem mul_zero (a : BitVec 32) : mul a 0 = 0 := by
  have := mul_xor a 0 0; simpa using this
theorem mul_zeroA (a : BitVec 32) : mul 0 a = 0 := by
  have := mul_xorA 0 0 a; simpa using this
/-- Two functions that are linear agree everywhere, if they agree at the powers of two. -/
theorem lin_ext (f g : BitVec 32 → BitVec 32) (hf : ∀ a b, f (a ^^^ b) = f a ^^^ f b) (hg : ∀ a b, g (a ^^^ b) = g a ^^^ g b) (h : ∀ i < 32, f (1#32 <<< i) = g (1#32 <<< i)) (x : BitVec 32) : f x = g x := by
  have f0 : f 0 = 0 := by have := hf 0 0; simpa using this
  have g0 : g 0 = 0 := by have := hg 0 0; simpa using this
  rw [← lin_eq f hf f0 x, ← lin_eq g hg g0 x]
  have : ∀ k, k ≤ 32 → comb (fun i => f (1#32 <<< i)) x k = comb (fun i => g (1#32 <<< i)) x k := by
    intro k
    induction k with
    | zero => intro _; rfl
    | succ k ih => intro hk; rw [comb, comb, ih (by omega), h k (by omega)]
  exact this 32 (by omega)
theorem mul_one_bits : ∀ j < 32, mul (1#32 <<< j) 1#32 = 1#32 <<< j := by decide +kernel
theorem mul_one (a : BitVec 32) : mul a 1#32 = a :=
  lin_ext (fun a => mul a 1#32) (fun a => a) (fun a b => mul_xorA a b 1#32) (fun _ _ => rfl) (fun j hj => mul_one_bits j hj) a
theorem horner_pow_zero (a : BitVec 32) (i : Nat) (hi : i < 32) : ∀ k, k ≤ 31 - i → horner a (1#32 <<< i) k = 0 := by
  intro k
  induction k with
  | zero => intro _; rfl
  | succ k ih =>
    intro hk
    have h : (1#32 <<< i).getLsbD (31 - k) = false := by
      rw [BitVec.getLsbD_shiftLeft, BitVec.getLsbD_one]
      have : ¬ 31 - k - i = 0 := by omega
      simp [this]
    rw [horner_succ, ih (by omega), h, step_zero]; simp
theorem horner_pow (a : BitVec 32) (i : Nat) (hi : i < 32) : ∀ d, d ≤ i → horner a (1#32 <<< i) (32 - i + d) = steps d a := by
  intro d
  induction d with
  | zero =>
    intro _
    have h : (1#32 <<< i).getLsbD (31 - (31 - i)) = true := by
      rw [BitVec.getLsbD_shiftLeft, BitVec.getLsbD_one, show 31 - (31 - i) = i by omega]
      simp; omega
    rw [show 32 - i + 0 = (31 - i) + 1 by omega, horner_succ, horner_pow_zero a i hi _ (Nat.le_refl _), h, step_zero]
    simp [steps]
  | succ d ih =>
    intro hd
    have h : (1#32 <<< i).getLsbD (31 - (32 - i + d)) = false := by
      rw [BitVec.getLsbD_shiftLeft, BitVec.getLsbD_one]
      have : 31 - (32 - i + d) < i := by omega
      simp [this]
    rw [← Nat.add_assoc, horner_succ, ih (by omega), h, steps_succ']; simp
theorem mul_pow (a : BitVec 32) (i : Nat) (hi : i < 32) : mul a (1#32 <<< i) = steps i a := by
  have := horner_pow a i hi i (Nat.le_refl _)
  rwa [show 32 - i + i = 32 by omega] at this
theorem step_pow : ∀ i < 31, step (1#32 <<< i) = 1#32 <<< (i + 1) := by decide +kernel
theorem step_top : step (1#32 <<< 31) = Pl := by decide +kernel
theorem mul_Pl_bits : ∀ j < 32, mul (1#32 <<< j) Pl = steps 32 (1#32 <<< j) := by decide +kernel
theorem mul_Pl (a : BitVec 32) : mul a Pl = steps 32 a := lin_ext (fun a => mul a Pl) (steps 32) (fun a b => mul_xorA a b Pl) (steps_xor 32) mul_Pl_bits a
theorem mul_step (a b : BitVec 32) : mul a (step b) = step (mul a b) := by
  refine lin_ext (fun b => mul a (step b)) (fun b => step (mul a b)) (fun x y => by simp only [step_xor, mul_xor]) (fun x y => by simp only [step_xor, mul_xor]) (fun i hi => ?_) b
  show mul a (step (1#32 <<< i)) = step (mul a (1#32 <<< i))
  rw [mul_pow a i hi, ← steps_succ']
  by_cases h : i < 31
  · rw [step_pow i h, mul_pow a (i + 1) (by omega)]
  · obtain rfl : i = 31 := by omega
    rw [step_top, mul_Pl]
theorem mul_steps_any (a : BitVec 32) (n : Nat) : ∀ b, mul a (steps n b) = steps n (mul a b) := by
  induction n with
  | zero => intro b; rfl
  | succ n ih => intro b; rw [steps, ih, mul_step]; rfl
theorem mul_steps (a : BitVec 32) (n : Nat) : mul a (steps n 1#32) = steps n a := by rw [mul_steps_any, mul_one]
/-! the table's two looks are eight steps -/
theorem tabAt_xor : ∀ a b : BitVec 4, tabAt (a.setWidth 8 ^^^ b.setWidth 8) = tabAt (a.setWidth 8) ^^^ tabAt (b.setWidth 8) := by decide +kernel
theorem top_nibble (z : BitVec 32) : (z >>> 28).setWidth 8 = ((z >>> 28).setWidth 4).setWidth 8 := by
  apply BitVec.eq_of_toNat_eq
  simp only [BitVec.toNat_setWidth, BitVec.toNat_ushiftRight, Nat.shiftRight_eq_div_pow]
  have := z.isLt
  have h1 : z.toNat / 2 ^ 28 < 16 := by omega
  omega
def four (z : BitVec 32) : BitVec 32 := z <<< 4 ^^^ tabAt ((z >>> 28).setWidth 8)
theorem four_xor (a b : BitVec 32) : four (a ^^^ b) = four a ^^^ four b := by
  unfold four
  rw [BitVec.shiftLeft_xor_distrib, top_nibble (a ^^^ b), top_nibble a, top_nibble b]
  have : ((a ^^^ b) >>> 28).setWidth 4 = (a >>> 28).setWidth 4 ^^^ (b >>> 28).setWidth 4 := by
    rw [BitVec.ushiftRight_xor_distrib, BitVec.setWidth_xor]
  rw [this, BitVec.setWidth_xor, tabAt_xor, xor_swap]
theorem four_bits : ∀ i < 32, four (1#32 <<< i) = steps 4 (1#32 <<< i) := by decide +kernel
theorem four_eq (z : BitVec 32) : four z = steps 4 z := lin_ext four (steps 4) four_xor (steps_xor 4) four_bits z
theorem nib_back : ∀ i : BitVec 8, i.toNat < 16 → ((i.setWidth 32 <<< 28) >>> 28).setWidth 8 = i := by decide +kernel
theorem nib_eq (x : BitVec 32) (i : BitVec 8) (hi : i.toNat < 16) : nib x i = steps 4 (x ^^^ i.setWidth 32 <<< 28) := by
  rw [← four_eq]
  unfold nib four
  have e32 : (i.setWidth 32) <<< (28 + 4) = 0 := BitVec.shiftLeft_eq_zero (by omega)
  rw [BitVec.shiftLeft_xor_distrib, ← BitVec.shiftLeft_add, e32, BitVec.ushiftRight_xor_distrib, BitVec.setWidth_xor]
  rw [nib_back i hi]; simp
theorem byte_parts : ∀ y : BitVec 8, (y >>> 4).setWidth 32 <<< 28 ^^^ (y &&& 15#8).setWidth 32 <<< 24 = y.setWidth 32 <<< 24 := by decide +kernel
theorem low_four : ∀ y : BitVec 8, steps 4 ((y &&& 15#8).setWidth 32 <<< 24) = (y &&& 15#8).setWidth 32 <<< 28 := by decide +kernel
theorem byteT_eq (x : BitVec 32) (y : BitVec 8) : byteT x y = byte x y := by
  unfold byteT byte
  rw [nib_eq _ _ (and15_lt y), nib_eq _ _ (shr4_lt y), ← low_four, ← steps_xor, ← steps_add, BitVec.xor_assoc, byte_parts]
theorem runT_eq (x : BitVec 32) (bs : List (BitVec 8)) : runT x bs = run x bs := by
  unfold runT run
  have : byteT = byte := by funext x y; exact byteT_eq x y
  rw [this]
theorem update_eq (c : BitVec 32) (bs : List (BitVec 8)) : ~~~ runT (~~~ c) bs = update c bs := by rw [runT_eq]; rfl
end Go.Proofs.YtmeoafodcniliaaGreatDoor.Crc
