/- What follows for sums: parts, joins, bits that were turned. Plain mathematics, no program. -/
import Derived.Test.YtmeoafodcniliaaGreatDoorCrc
namespace Go.Proofs.YtmeoafodcniliaaGreatDoor.Crc
set_option linter.unusedSimpArgs false
set_option linter.unusedVariables false

theorem not_eq (x : BitVec 32) : ~~~ x = x ^^^ BitVec.allOnes 32 := by rw [BitVec.xor_allOnes]
theorem byte_lin (r s : BitVec 32) (b c : BitVec 8) : byte (r ^^^ s) (b ^^^ c) = byte r b ^^^ byte s c := by
  unfold byte
  rw [← steps_xor, BitVec.setWidth_xor, BitVec.shiftLeft_xor_distrib, xor_swap]
/-- Lists xored place by place. -/
def xorL (a b : List (BitVec 8)) : List (BitVec 8) := List.zipWith (· ^^^ ·) a b
theorem run_lin : ∀ (a b : List (BitVec 8)) (r s : BitVec 32), a.length = b.length → run (r ^^^ s) (xorL a b) = run r a ^^^ run s b := by
  intro a
  induction a with
  | nil =>
    intro b r s h
    obtain rfl : b = [] := List.eq_nil_of_length_eq_zero h.symm
    rfl
  | cons x a ih =>
    intro b r s h
    cases b with
    | nil => simp at h
    | cons y b =>
      show run (byte (r ^^^ s) (x ^^^ y)) (xorL a b) = run (byte r x) a ^^^ run (byte s y) b
      rw [byte_lin]
      exact ih b _ _ (by simpa using h)
theorem run_append (r : BitVec 32) (a b : List (BitVec 8)) : run r (a ++ b) = run (run r a) b := by simp [run]
theorem run_zero (r : BitVec 32) : ∀ b : List (BitVec 8), run r b = steps (8 * b.length) r ^^^ run 0 b := by
  intro b
  induction b generalizing r with
  | nil => simp [run, steps]
  | cons y b ih =>
    have h1 : byte r y = steps 8 r ^^^ byte 0 y := by
      have := byte_lin r 0 0 y
      simp at this
      rw [this]
      have h0 : byte r 0#8 = steps 8 r := by unfold byte; simp
      rw [h0]; rfl
    show run (byte r y) b = steps (8 * (y :: b).length) r ^^^ run (byte 0 y) b
    rw [ih (byte r y), ih (byte 0 y), h1, steps_xor, ← steps_add, List.length_cons, show 8 * (b.length + 1) = 8 + 8 * b.length by omega, BitVec.xor_assoc]
theorem update_zero (b : List (BitVec 8)) : update 0 b = sum b := rfl
theorem update_nil (c : BitVec 32) : update c [] = c := by simp [update, run]
theorem update_append (c : BitVec 32) (a b : List (BitVec 8)) : update c (a ++ b) = update (update c a) b := by
  unfold update; rw [run_append, BitVec.not_not]
theorem join_sum (a b : List (BitVec 8)) : steps (8 * b.length) (sum a) ^^^ sum b = sum (a ++ b) := by
  unfold sum update
  rw [run_append, run_zero (run (~~~ 0) a) b, run_zero (~~~ 0) b, not_eq (run (~~~ 0) a), steps_xor, not_eq (_ ^^^ _), not_eq (_ ^^^ _), show (~~~ (0 : BitVec 32)) = BitVec.allOnes 32 by decide]
  generalize steps (8 * b.length) (run (BitVec.allOnes 32) a) = X
  generalize steps (8 * b.length) (BitVec.allOnes 32) = Y
  generalize run 0 b = Z
  generalize BitVec.allOnes 32 = O
  rw [show (X ^^^ Y) ^^^ ((Y ^^^ Z) ^^^ O) = (X ^^^ Z ^^^ O) ^^^ (Y ^^^ Y) by ac_rfl]
  simp
theorem join_groups (a b c : BitVec 32) (n m : Int) (hn : 0 ≤ n) (hm : 0 ≤ m) : join (join a b n) c m = join a (join b c m) (n + m) := by
  unfold join
  rw [steps_xor, ← steps_add, show 8 * n.toNat + 8 * m.toNat = 8 * (n + m).toNat by omega]
  ac_rfl

/-! a sum behind its own bytes -/
def be (s : BitVec 32) : List (BitVec 8) := [(s >>> 24).setWidth 8, (s >>> 16).setWidth 8, (s >>> 8).setWidth 8, s.setWidth 8]
theorem be_xor (a b : BitVec 32) : be (a ^^^ b) = xorL (be a) (be b) := by
  simp [be, xorL, BitVec.ushiftRight_xor_distrib, BitVec.setWidth_xor]
theorem run_be_bits : ∀ i < 32, run 0 (be (1#32 <<< i)) = steps 32 (1#32 <<< i) := by decide +kernel
theorem run_be (s : BitVec 32) : run 0 (be s) = steps 32 s :=
  lin_ext (fun s => run 0 (be s)) (steps 32) (fun a b => by
    show run 0 (be (a ^^^ b)) = _
    rw [be_xor]
    have := run_lin (be a) (be b) 0 0 rfl
    simpa using this) (steps_xor 32) run_be_bits s
theorem sum_behind (b : List (BitVec 8)) : sum (b ++ be (sum b)) = 0x38FB2284#32 := by
  have h1 : sum b = run (~~~ 0) b ^^^ BitVec.allOnes 32 := not_eq _
  unfold sum update
  rw [run_append, run_zero, run_be]
  have h2 : (be (~~~ run (~~~ 0) b)).length = 4 := rfl
  rw [h2, ← steps_xor]
  have h3 : ∀ z : BitVec 32, z ^^^ ~~~ z = BitVec.allOnes 32 := fun z => by rw [not_eq z, ← BitVec.xor_assoc, BitVec.xor_self, BitVec.zero_xor]
  rw [h3]
  decide +kernel

/-! steps never bring two registers together -/
theorem step_eq_zero {x : BitVec 32} (h : step x = 0) : x = 0 := by
  unfold step at h
  by_cases hm : x.msb = true
  · rw [if_pos hm] at h
    have := congrArg (fun y => BitVec.getLsbD y 0) h
    simp [Pl] at this
  · rw [if_neg hm] at h
    have hm' : x.msb = false := by simpa using hm
    have h1 := BitVec.msb_eq_false_iff_two_mul_lt.1 hm'
    apply BitVec.eq_of_toNat_eq
    have h2 := congrArg BitVec.toNat h
    rw [BitVec.toNat_shiftLeft, Nat.shiftLeft_eq] at h2
    simp at h2 ⊢
    omega
theorem steps_eq_zero (n : Nat) : ∀ {x : BitVec 32}, steps n x = 0 → x = 0 := by
  induction n with
  | zero => intro x h; exact h
  | succ n ih => intro x h; exact step_eq_zero (ih h)
theorem xor_eq_zero {x y : BitVec 32} (h : x ^^^ y = 0) : x = y := by
  have := congrArg (· ^^^ y) h
  simpa [BitVec.xor_assoc] using this
theorem steps_inj (n : Nat) {x y : BitVec 32} (h : steps n x = steps n y) : x = y := by
  apply xor_eq_zero
  apply steps_eq_zero n
  rw [steps_xor, h, BitVec.xor_self]; rfl

/-! the order of one step -/
def pw (l : List Bool) : BitVec 32 := l.foldl (fun r b => if b then step (mul r r) else mul r r) 1#32
def val (l : List Bool) : Nat := l.foldl (fun n b => 2 * n + b.toNat) 0
theorem pw_val : ∀ (l : List Bool) (r : BitVec 32) (n : Nat), r = steps n 1#32 → l.foldl (fun r b => if b then step (mul r r) else mul r r) r = steps (l.foldl (fun n b => 2 * n + b.toNat) n) 1#32 := by
  intro l
  induction l with
  | nil => intro r n h; exact h
  | cons b l ih =>
    intro r n h
    rw [List.foldl_cons, List.foldl_cons]
    apply ih
    subst h
    rw [mul_steps, ← steps_add]
    cases b
    · simp; congr 1; omega
    · simp only [if_true, Bool.toNat_true]
      rw [← steps_succ']; congr 1; omega
theorem pw_steps (l : List Bool) : pw l = steps (val l) 1#32 := pw_val l _ 0 rfl
def ones (n : Nat) : List Bool := List.replicate n true
def rep (l : List Bool) (n : Nat) : List Bool := (List.replicate n l).flatten
set_option maxRecDepth 1000000 in
theorem ord_all : steps 4294967295 1#32 = 1#32 := by
  have h := pw_steps (ones 32)
  have e : val (ones 32) = 4294967295 := by decide +kernel
  rw [e] at h; rw [← h]; decide +kernel
set_option maxRecDepth 1000000 in
theorem ord_3 : steps 1431655765 1#32 ≠ 1#32 := by
  have h := pw_steps (rep [false, true] 16)
  have e : val (rep [false, true] 16) = 1431655765 := by decide +kernel
  rw [e] at h; rw [← h]; decide +kernel
set_option maxRecDepth 1000000 in
theorem ord_5 : steps 858993459 1#32 ≠ 1#32 := by
  have h := pw_steps (rep [false, false, true, true] 8)
  have e : val (rep [false, false, true, true] 8) = 858993459 := by decide +kernel
  rw [e] at h; rw [← h]; decide +kernel
set_option maxRecDepth 1000000 in
theorem ord_17 : steps 252645135 1#32 ≠ 1#32 := by
  have h := pw_steps (rep [false, false, false, false, true, true, true, true] 4)
  have e : val (rep [false, false, false, false, true, true, true, true] 4) = 252645135 := by decide +kernel
  rw [e] at h; rw [← h]; decide +kernel
set_option maxRecDepth 1000000 in
theorem ord_257 : steps 16711935 1#32 ≠ 1#32 := by
  have h := pw_steps (rep [false, false, false, false, false, false, false, false, true, true, true, true, true, true, true, true] 2)
  have e : val (rep [false, false, false, false, false, false, false, false, true, true, true, true, true, true, true, true] 2) = 16711935 := by decide +kernel
  rw [e] at h; rw [← h]; decide +kernel
set_option maxRecDepth 1000000 in
theorem ord_65537 : steps 65535 1#32 ≠ 1#32 := by
  have h := pw_steps (ones 16)
  have e : val (ones 16) = 65535 := by decide +kernel
  rw [e] at h; rw [← h]; decide +kernel
theorem ord_mul {g : Nat} (h : steps g 1#32 = 1#32) : ∀ k, steps (g * k) 1#32 = 1#32 := by
  intro k
  induction k with
  | zero => rfl
  | succ k ih => rw [Nat.mul_succ, steps_add, ih, h]
theorem ord_mod {a b : Nat} (ha : steps a 1#32 = 1#32) (hb : steps b 1#32 = 1#32) : steps (b % a) 1#32 = 1#32 := by
  have h := Nat.div_add_mod b a
  rw [← h, steps_add, ord_mul ha] at hb
  exact hb
theorem ord_gcd : ∀ a b : Nat, steps a 1#32 = 1#32 → steps b 1#32 = 1#32 → steps (Nat.gcd a b) 1#32 = 1#32 := by
  intro a b
  induction a, b using Nat.gcd.induction with
  | H0 n => intro _ h; rw [Nat.gcd_zero_left]; exact h
  | H1 m n hm ih =>
    intro h1 h2
    rw [Nat.gcd_rec]
    exact ih (ord_mod h1 h2) h1
theorem small_prime {p : Nat} (hp : ∀ x ≤ p, x ∣ p → x = 1 ∨ x = p) (hp0 : 0 < p) (q : Nat) : Nat.Coprime q p ∨ p ∣ q := by
  rcases hp (Nat.gcd q p) (Nat.gcd_le_right _ hp0) (Nat.gcd_dvd_right _ _) with h | h
  · exact .inl h
  · exact .inr (h ▸ Nat.gcd_dvd_left q p)
theorem ord_small (d : Nat) (h0 : 0 < d) (h1 : d < 1000000) : steps d 1#32 ≠ 1#32 := by
  intro hd
  have hg := ord_gcd d 4294967295 hd ord_all
  have hgd : Nat.gcd d 4294967295 ≤ d := Nat.gcd_le_left _ h0
  obtain ⟨q, hq⟩ := Nat.gcd_dvd_right d 4294967295
  have hg0 : 0 < Nat.gcd d 4294967295 := Nat.gcd_pos_of_pos_left _ h0
  generalize Nat.gcd d 4294967295 = g at hg hgd hq hg0
  have kill : ∀ p e, p * e = 4294967295 → steps e 1#32 ≠ 1#32 → ¬ p ∣ q := by
    intro p e he hne ⟨r, hr⟩
    apply hne
    have : e = g * r := by
      subst hr
      have h2 : p * e = p * (g * r) := by rw [he, hq, Nat.mul_left_comm]
      exact Nat.eq_of_mul_eq_mul_left (by rcases Nat.eq_zero_or_pos p with h | h; · subst h; omega
                                          · exact h) h2
    rw [this]; exact ord_mul hg r
  have c3 := (small_prime (p := 3) (by decide) (by decide) q).resolve_right (kill 3 _ (by decide) ord_3)
  have c5 := (small_prime (p := 5) (by decide) (by decide) q).resolve_right (kill 5 _ (by decide) ord_5)
  have c17 := (small_prime (p := 17) (by decide) (by decide) q).resolve_right (kill 17 _ (by decide) ord_17)
  have c257 := (small_prime (p := 257) (by decide +kernel) (by decide) q).resolve_right (kill 257 _ (by decide) ord_257)
  have c : Nat.Coprime q (3 * 5 * 17 * 257) := ((c3.mul_right c5).mul_right c17).mul_right c257
  have hd2 : q ∣ (3 * 5 * 17 * 257) * 65537 := ⟨g, by rw [Nat.mul_comm q g, ← hq]⟩
  obtain ⟨s, hs⟩ := c.dvd_of_dvd_mul_left hd2
  have hgs : g = 65535 * s := by
    have hq0 : 0 < q := by rcases Nat.eq_zero_or_pos q with h | h; · subst h; omega
                           · exact h
    apply Nat.eq_of_mul_eq_mul_right hq0
    rw [← hq, Nat.mul_assoc, Nat.mul_comm s q, ← hs]
  have hs16 : s < 16 := by omega
  have hs1 : s = 1 := by
    have : ∀ s < 16, 65537 % s = 0 → s = 1 := by decide
    exact this s hs16 (Nat.mod_eq_zero_of_dvd ⟨q, by rw [hs, Nat.mul_comm]⟩)
  subst hs1
  exact ord_65537 (by rw [← Nat.mul_one 65535, ← hgs]; exact hg)
/-! bits that are turned -/
/-- The bit i of a list turned (counted from the first byte's highest bit). -/
def flipBit (l : List (BitVec 8)) (i : Nat) : List (BitVec 8) := l.set (i / 8) (l.getD (i / 8) 0 ^^^ 128#8 >>> (i % 8))
/-- The first k bits of a pattern have been turned, from the bit a on. -/
def turnF (bs : List (BitVec 8)) (a : Nat) (p : BitVec 32) : Nat → List (BitVec 8) × Bool
  | 0 => (bs, false)
  | k + 1 => if p.getLsbD (31 - k) = true ∧ a + k < 8 * bs.length then (flipBit (turnF bs a p k).1 (a + k), true) else turnF bs a p k
theorem flipBit_length (l : List (BitVec 8)) (i : Nat) : (flipBit l i).length = l.length := by simp [flipBit]
theorem turnF_length (bs : List (BitVec 8)) (a : Nat) (p : BitVec 32) (k : Nat) : (turnF bs a p k).1.length = bs.length := by
  induction k with
  | zero => rfl
  | succ k ih =>
    rw [turnF]
    split
    · rw [flipBit_length, ih]
    · exact ih
theorem byte_set (r : BitVec 32) (x m : BitVec 8) : byte r (x ^^^ m) = byte r x ^^^ steps 8 (m.setWidth 32 <<< 24) := by
  unfold byte
  rw [← steps_xor, BitVec.setWidth_xor, BitVec.shiftLeft_xor_distrib, BitVec.xor_assoc]
theorem run_set : ∀ (l : List (BitVec 8)) (j : Nat) (hj : j < l.length) (r : BitVec 32) (m : BitVec 8),
    run r (l.set j (l[j] ^^^ m)) = run r l ^^^ steps (8 * (l.length - 1 - j)) (steps 8 (m.setWidth 32 <<< 24)) := by
  intro l
  induction l with
  | nil => intro j hj; simp at hj
  | cons x l ih =>
    intro j hj r m
    cases j with
    | zero =>
      show run (byte r (x ^^^ m)) l = run (byte r x) l ^^^ steps (8 * ((x :: l).length - 1 - 0)) _
      have e : 8 * ((x :: l).length - 1 - 0) = 8 * l.length := by simp
      rw [e, byte_set, run_zero (_ ^^^ _), run_zero (byte r x), steps_xor]
      generalize steps (8 * l.length) (byte r x) = X
      generalize steps (8 * l.length) _ = Y
      generalize run 0 l = Z
      ac_rfl
    | succ j =>
      have hj' : j < l.length := by simpa using hj
      show run (byte r x) (l.set j (l[j] ^^^ m)) = run (byte r x) l ^^^ _
      rw [ih j hj' (byte r x) m]
      have e : (x :: l).length - 1 - (j + 1) = l.length - 1 - j := by simp; omega
      rw [e]
theorem one_bit : ∀ t : Nat, t < 8 → (BitVec.setWidth 32 (128#8 >>> t)) <<< 24 = steps (31 - t) 1#32 := by decide +kernel
theorem sum_flip (l : List (BitVec 8)) (i : Nat) (hi : i < 8 * l.length) : sum (flipBit l i) = sum l ^^^ steps (8 * l.length + 31 - i) 1#32 := by
  have hj : i / 8 < l.length := by omega
  have ht : i % 8 < 8 := Nat.mod_lt _ (by decide)
  have hg : l.getD (i / 8) 0 = l[i / 8] := by simp [List.getD, List.getElem?_eq_getElem hj]
  unfold sum update flipBit
  rw [hg, run_set l (i / 8) hj, one_bit _ ht, ← steps_add, ← steps_add, not_eq (_ ^^^ _), not_eq (run _ _)]
  rw [show 31 - i % 8 + (8 + 8 * (l.length - 1 - i / 8)) = 8 * l.length + 31 - i by omega]
  ac_rfl
theorem step_small (v : Nat) (k : Nat) (hk : k < 32) (hv : v < 2 ^ k) : step (BitVec.ofNat 32 v) = BitVec.ofNat 32 (2 * v) := by
  have h31 : 2 ^ k ≤ 2 ^ 31 := Nat.pow_le_pow_right (by decide) (by omega)
  have hv' : v < 2 ^ 31 := Nat.lt_of_lt_of_le hv h31
  have hm : (BitVec.ofNat 32 v).msb = false := by
    apply BitVec.msb_eq_false_iff_two_mul_lt.2
    rw [BitVec.toNat_ofNat, Nat.mod_eq_of_lt (by omega)]; omega
  unfold step
  rw [if_neg (by rw [hm]; decide)]
  apply BitVec.eq_of_toNat_eq
  rw [BitVec.toNat_shiftLeft, Nat.shiftLeft_eq, BitVec.toNat_ofNat, BitVec.toNat_ofNat, Nat.mod_eq_of_lt (by omega : v < 2 ^ 32)]
  rw [Nat.mul_comm]
theorem or_one (v : Nat) (hv : 2 * v + 1 < 2 ^ 32) : BitVec.ofNat 32 (2 * v) ^^^ 1#32 = BitVec.ofNat 32 (2 * v + 1) := by
  apply BitVec.eq_of_toNat_eq
  rw [BitVec.toNat_xor]
  have e1 : (BitVec.ofNat 32 (2 * v)).toNat = 2 * v := by rw [BitVec.toNat_ofNat, Nat.mod_eq_of_lt (by omega)]
  have e2 : (BitVec.ofNat 32 (2 * v + 1)).toNat = 2 * v + 1 := by rw [BitVec.toNat_ofNat, Nat.mod_eq_of_lt hv]
  rw [e1, e2]
  show 2 * v ^^^ 1 = 2 * v + 1
  apply Nat.eq_of_testBit_eq
  intro i
  rw [Nat.testBit_xor]
  cases i with
  | zero =>
    rw [Nat.testBit_zero, Nat.testBit_zero, Nat.testBit_zero]
    have h1 : 2 * v % 2 = 0 := by omega
    have h2 : (2 * v + 1) % 2 = 1 := by omega
    simp [h1, h2]
  | succ i =>
    rw [Nat.testBit_succ, Nat.testBit_succ, Nat.testBit_succ]
    have h1 : 2 * v / 2 = v := by omega
    have h2 : (2 * v + 1) / 2 = v := by omega
    simp [h1, h2]
theorem turn_acc (bs : List (BitVec 8)) (a : Nat) (p : BitVec 32) : ∀ k, k ≤ 32 → ∃ v m, v < 2 ^ k ∧ sum (turnF bs a p k).1 = sum bs ^^^ steps m (BitVec.ofNat 32 v) ∧
    ((turnF bs a p k).2 = true ↔ v ≠ 0) ∧ (a + k ≤ 8 * bs.length → m = 8 * bs.length + 32 - a - k) := by
  intro k
  induction k with
  | zero =>
    intro _
    refine ⟨0, 8 * bs.length + 32 - a, by simp, ?_, by simp [turnF], fun _ => by omega⟩
    have : BitVec.ofNat 32 0 = 0 := rfl
    rw [this, steps_zero]; simp [turnF]
  | succ k ih =>
    intro hk
    obtain ⟨v, m, hv, hs, hb, hm⟩ := ih (by omega)
    have hp : 2 ^ (k + 1) = 2 * 2 ^ k := by rw [Nat.pow_succ]; omega
    have h32 : 2 ^ (k + 1) ≤ 2 ^ 32 := Nat.pow_le_pow_right (by decide) hk
    by_cases hin : a + k < 8 * bs.length
    · have hm' := hm (by omega)
      have hstep := step_small v k (by omega) hv
      have hms : steps m (BitVec.ofNat 32 v) = steps (m - 1) (BitVec.ofNat 32 (2 * v)) := by
        rw [← hstep, show m = (m - 1) + 1 by omega]; rfl
      by_cases hbit : p.getLsbD (31 - k) = true
      · refine ⟨2 * v + 1, m - 1, by omega, ?_, ?_, fun _ => by omega⟩
        · rw [turnF, if_pos ⟨hbit, hin⟩]
          show sum (flipBit (turnF bs a p k).1 (a + k)) = _
          rw [sum_flip _ _ (by rw [turnF_length]; exact hin), turnF_length, hs, hms, ← or_one v (by omega), steps_xor, show 8 * bs.length + 31 - (a + k) = m - 1 by omega, BitVec.xor_assoc]
        · rw [turnF, if_pos ⟨hbit, hin⟩]; simp
      · refine ⟨2 * v, m - 1, by omega, ?_, ?_, fun _ => by omega⟩
        · rw [turnF, if_neg (fun h => hbit h.1), hs, hms]
        · rw [turnF, if_neg (fun h => hbit h.1), hb]; omega
    · refine ⟨v, m, by omega, ?_, ?_, fun h => by omega⟩
      · rw [turnF, if_neg (fun h => hin h.2)]; exact hs
      · rw [turnF, if_neg (fun h => hin h.2)]; exact hb
theorem turn_sum (bs : List (BitVec 8)) (a : Nat) (p : BitVec 32) : (turnF bs a p 32).2 = true ↔ sum (turnF bs a p 32).1 ≠ sum bs := by
  obtain ⟨v, m, hv, hs, hb, _⟩ := turn_acc bs a p 32 (Nat.le_refl _)
  rw [hb, hs]
  constructor
  · intro h0 h
    apply h0
    have h1 : steps m (BitVec.ofNat 32 v) = 0 := by
      have := congrArg (fun z => sum bs ^^^ z) h
      simp only [← BitVec.xor_assoc, BitVec.xor_self, BitVec.zero_xor] at this
      exact this
    have h2 := congrArg BitVec.toNat (steps_eq_zero m h1)
    rw [BitVec.toNat_ofNat, Nat.mod_eq_of_lt hv] at h2
    exact h2
  · intro h h0
    apply h
    subst h0
    have : BitVec.ofNat 32 0 = 0 := rfl
    rw [this, steps_zero]; simp
/-- The pattern with its highest bit alone turns just one bit. -/
theorem turn_one (bs : List (BitVec 8)) (a : Nat) (ha : a < 8 * bs.length) : ∀ k, k < 32 → turnF bs a 2147483648#32 (k + 1) = (flipBit bs a, true) := by
  intro k
  induction k with
  | zero => intro _; rw [turnF, if_pos ⟨by decide, by omega⟩]; rfl
  | succ k ih =>
    intro hk
    have hb : ∀ k < 31, (2147483648#32).getLsbD (31 - (k + 1)) = false := by decide
    rw [turnF, if_neg (fun h => by rw [hb k (by omega)] at h; exact absurd h.1 (by decide)), ih (by omega)]
theorem two_sum (bs : List (BitVec 8)) (u v : Nat) (hu : u < 8 * bs.length) (hv : v < 8 * bs.length) (hs : 8 * bs.length ≤ 1000000) : sum (flipBit (flipBit bs u) v) = sum bs ↔ u = v := by
  rw [sum_flip _ _ (by rw [flipBit_length]; exact hv), sum_flip _ _ hu, flipBit_length]
  have key : ∀ s t : Nat, s < t → t < 8 * bs.length → steps (8 * bs.length + 31 - s) 1#32 ≠ steps (8 * bs.length + 31 - t) 1#32 := by
    intro s t hst ht h
    have e : 8 * bs.length + 31 - s = (t - s) + (8 * bs.length + 31 - t) := by omega
    rw [e, steps_add] at h
    exact ord_small (t - s) (by omega) (by omega) (steps_inj _ h)
  constructor
  · intro h
    have h1 : steps (8 * bs.length + 31 - u) 1#32 ^^^ steps (8 * bs.length + 31 - v) 1#32 = 0 := by
      have := congrArg (fun z => sum bs ^^^ z) h
      simp only [← BitVec.xor_assoc, BitVec.xor_self, BitVec.zero_xor] at this
      exact this
    have h2 := xor_eq_zero h1
    rcases Nat.lt_trichotomy u v with h3 | h3 | h3
    · exact absurd h2 (key u v h3 hv)
    · exact h3
    · exact absurd h2.symm (key v u h3 hu)
  · intro h
    subst h
    rw [BitVec.xor_assoc, BitVec.xor_self]; simp
theorem sum_lin (a b c : List (BitVec 8)) (h1 : a.length = b.length) (h2 : b.length = c.length) : sum (xorL (xorL a b) c) = sum a ^^^ sum b ^^^ sum c := by
  have hl : (xorL a b).length = c.length := by simp [xorL, h1, h2]
  have := run_lin (xorL a b) c (BitVec.allOnes 32 ^^^ BitVec.allOnes 32) (BitVec.allOnes 32) hl
  rw [run_lin a b _ _ h1] at this
  unfold sum update
  rw [show (~~~ (0 : BitVec 32)) = BitVec.allOnes 32 by decide]
  rw [show BitVec.allOnes 32 ^^^ BitVec.allOnes 32 ^^^ BitVec.allOnes 32 = BitVec.allOnes 32 by decide] at this
  rw [this, not_eq, not_eq, not_eq, not_eq]
  generalize run (BitVec.allOnes 32) a = X
  generalize run (BitVec.allOnes 32) b = Y
  generalize run (BitVec.allOnes 32) c = Z
  generalize BitVec.allOnes 32 = O
  rw [show X ^^^ O ^^^ (Y ^^^ O) ^^^ (Z ^^^ O) = (X ^^^ Y ^^^ Z ^^^ O) ^^^ (O ^^^ O) by ac_rfl, BitVec.xor_self]
  simp
theorem join_zeros (b z : List (BitVec 8)) : (steps (8 * z.length) (sum b) ^^^ 0) ^^^ sum z = sum (b ++ z) := by
  rw [← join_sum b z]; simp
end Go.Proofs.YtmeoafodcniliaaGreatDoor.Crc
