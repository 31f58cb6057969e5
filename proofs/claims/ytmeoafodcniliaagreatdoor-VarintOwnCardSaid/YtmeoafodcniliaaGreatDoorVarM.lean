/- Numbers' forms as lists of bytes: plain mathematics, no program. -/
import Derived.Test.YtmeoafodcniliaaGreatDoorWords
namespace Go.Proofs.YtmeoafodcniliaaGreatDoor.Vi
set_option linter.unusedSimpArgs false
set_option linter.unusedVariables false
/-- How many bytes a number's form has. -/
def len (x : Nat) : Nat := Nat.log2 x / 7 + 1
theorem pow7 (n : Nat) : 128 ^ n = 2 ^ (7 * n) := by rw [show 128 = 2 ^ 7 by rfl, ← Nat.pow_mul]
theorem len_le {x n : Nat} (hn : 1 ≤ n) : len x ≤ n ↔ x < 128 ^ n := by
  unfold len
  by_cases hx : x = 0
  · subst hx
    have : Nat.log2 0 = 0 := by decide
    rw [this]
    have : 0 < 128 ^ n := Nat.pow_pos (by decide)
    omega
  · rw [pow7, ← Nat.log2_lt hx]; omega
theorem len_pos (x : Nat) : 1 ≤ len x := by unfold len; omega
theorem len_lt {x n : Nat} (hn : 1 ≤ n) : n < len x ↔ 128 ^ n ≤ x := by
  have := len_le (x := x) hn; omega
theorem len_top (x : Nat) (h : len x ≠ 1) : 128 ^ (len x - 1) ≤ x := by
  have := len_pos x
  exact (len_lt (by omega)).1 (by omega)
theorem len_bound (x : Nat) : x < 128 ^ len x := (len_le (len_pos x)).1 (Nat.le_refl _)
theorem len_nine {x : Nat} (h : x < 9223372036854775808) : len x ≤ 9 := (len_le (by decide)).2 (by omega)
theorem len_mono {x y : Nat} (h : x ≤ y) : len x ≤ len y := (len_le (len_pos y)).2 (Nat.lt_of_le_of_lt h (len_bound y))
/-- The group i of seven bits, as it stands in a form. -/
def grp (x i : Nat) : BitVec 8 := if i = 0 then BitVec.ofNat 8 (x % 128) else BitVec.ofNat 8 (x / 128 ^ i % 128 + 128)
/-- The groups below n, the highest first. -/
def down (x : Nat) : Nat → List (BitVec 8)
  | 0 => []
  | n + 1 => grp x n :: down x n
/-- A number's form. -/
def form (x : Nat) : List (BitVec 8) := down x (len x)
theorem down_length (x : Nat) : ∀ n, (down x n).length = n
  | 0 => rfl
  | n + 1 => by rw [down, List.length_cons, down_length x n]
theorem form_length (x : Nat) : (form x).length = len x := down_length x _
theorem grp_zero (x : Nat) : (grp x 0).toNat = x % 128 := by
  unfold grp; rw [if_pos rfl, BitVec.toNat_ofNat]; omega
theorem grp_pos (x i : Nat) (h : i ≠ 0) : (grp x i).toNat = x / 128 ^ i % 128 + 128 := by
  unfold grp; rw [if_neg h, BitVec.toNat_ofNat]; omega
theorem grp_mod (x i : Nat) : (grp x i).toNat % 128 = x / 128 ^ i % 128 := by
  by_cases h : i = 0
  · subst h; rw [grp_zero]; simp
  · rw [grp_pos x i h]; omega
/-- The number that groups are, the first the highest; a: what stands ahead of them. -/
def valA : Nat → List (BitVec 8) → Nat
  | a, [] => a
  | a, c :: t => valA (a * 128 + c.toNat % 128) t
def val (l : List (BitVec 8)) : Nat := valA 0 l
theorem valA_eq : ∀ (l : List (BitVec 8)) (a : Nat), valA a l = a * 128 ^ l.length + val l
  | [], a => by simp [valA, val]
  | c :: t, a => by
    unfold val
    rw [valA, valA, valA_eq t, valA_eq t, List.length_cons, Nat.pow_succ, Nat.add_mul, Nat.add_mul]
    simp only [Nat.zero_mul, Nat.zero_add]
    rw [Nat.mul_assoc, Nat.mul_comm 128 (128 ^ t.length), ← Nat.add_assoc]
theorem val_cons (c : BitVec 8) (t : List (BitVec 8)) : val (c :: t) = c.toNat % 128 * 128 ^ t.length + val t := by
  show valA _ t = _
  rw [valA_eq]; simp
theorem val_snoc (l : List (BitVec 8)) (c : BitVec 8) : val (l ++ [c]) = val l * 128 + c.toNat % 128 := by
  have : ∀ (l : List (BitVec 8)) (a : Nat), valA a (l ++ [c]) = valA a l * 128 + c.toNat % 128 := by
    intro l
    induction l with
    | nil => intro a; rfl
    | cons x l ih => intro a; exact ih _
  exact this l 0
theorem val_lt : ∀ l : List (BitVec 8), val l < 128 ^ l.length
  | [] => by simp [val, valA]
  | c :: t => by
    have := val_lt t
    rw [val_cons, List.length_cons, Nat.pow_succ]
    have h : c.toNat % 128 ≤ 127 := by omega
    have := Nat.mul_le_mul_right (128 ^ t.length) h
    omega
theorem val_down (x : Nat) : ∀ n, val (down x n) = x % 128 ^ n
  | 0 => by simp [down, val, valA, Nat.mod_one]
  | n + 1 => by
    rw [down, val_cons, down_length, val_down x n, grp_mod, Nat.pow_succ, Nat.mod_mul, Nat.mul_comm (128 ^ n)]
    omega
theorem val_form (x : Nat) : val (form x) = x := by
  unfold form; rw [val_down, Nat.mod_eq_of_lt (len_bound x)]
/-- How many bytes of 128 or more a list begins with. -/
def lead : List (BitVec 8) → Nat
  | [] => 0
  | c :: t => if 128 ≤ c.toNat then lead t + 1 else 0
theorem lead_le : ∀ b : List (BitVec 8), lead b ≤ b.length
  | [] => Nat.le_refl _
  | c :: t => by unfold lead; have := lead_le t; split <;> simp <;> omega
theorem lead_all : ∀ (b : List (BitVec 8)) (i : Nat), (∀ j, j < i → ∃ c, b[j]? = some c ∧ 128 ≤ c.toNat) → i ≤ lead b
  | b, 0, _ => Nat.zero_le _
  | [], i + 1, h => by obtain ⟨c, h, _⟩ := h 0 (by omega); simp at h
  | c :: t, i + 1, h => by
    obtain ⟨c', h1, h2⟩ := h 0 (by omega)
    simp at h1; subst h1
    unfold lead; rw [if_pos h2]
    have := lead_all t i (fun j hj => by simpa using h (j + 1) (by omega))
    omega
theorem lead_at : ∀ (b : List (BitVec 8)) (i : Nat) (c : BitVec 8), b[i]? = some c → i ≤ lead b → c.toNat < 128 → lead b = i
  | [], i, c, h, _, _ => by simp at h
  | x :: t, 0, c, h, _, hc => by simp at h; subst h; unfold lead; rw [if_neg (by omega)]
  | x :: t, i + 1, c, h, hl, hc => by
    unfold lead at hl ⊢
    split at hl
    · rename_i hx
      rw [if_pos hx, lead_at t i c (by simpa using h) (by omega) hc]
    · omega
theorem lead_big : ∀ (b : List (BitVec 8)) (j : Nat), j < lead b → ∃ c, b[j]? = some c ∧ 128 ≤ c.toNat
  | [], j, h => by simp [lead] at h
  | c :: t, j, h => by
    unfold lead at h
    split at h
    · rename_i hc
      cases j with
      | zero => exact ⟨c, rfl, hc⟩
      | succ j => simpa using lead_big t j (by omega)
    · omega
theorem lead_end : ∀ (b : List (BitVec 8)), lead b < b.length → ∃ c, b[lead b]? = some c ∧ c.toNat < 128
  | [], h => by simp at h
  | c :: t, h => by
    unfold lead at h ⊢
    split
    · rename_i hc
      rw [if_pos hc] at h
      simpa using lead_end t (by simpa using h)
    · exact ⟨c, rfl, by omega⟩
/-- What stands at the beginning of bytes: the error (11: the form is not the least, 12: too wide, 10: cut short). -/
def numE (b : List (BitVec 8)) : Int := if b.head? = some 128#8 then 11 else if 9 ≤ lead b then 12 else if lead b = b.length then 10 else 0
def numX (b : List (BitVec 8)) : Nat := if numE b = 0 then val (b.take (lead b + 1)) else 0
def numN (b : List (BitVec 8)) : Nat := if numE b = 0 then lead b + 1 else 0
theorem lead_down (x : Nat) (r : List (BitVec 8)) : ∀ n, lead (down x (n + 1) ++ r) = n
  | 0 => by
    show lead (grp x 0 :: _) = 0
    unfold lead; rw [grp_zero, if_neg (by omega)]
  | n + 1 => by
    show lead (grp x (n + 1) :: (down x (n + 1) ++ r)) = n + 1
    unfold lead; rw [grp_pos x (n + 1) (by omega), if_pos (by omega), lead_down x r n]
theorem form_lead (x : Nat) (r : List (BitVec 8)) : lead (form x ++ r) = len x - 1 := by
  unfold form
  obtain ⟨n, hn⟩ : ∃ n, len x = n + 1 := ⟨len x - 1, by have := len_pos x; omega⟩
  rw [hn, lead_down]; omega
theorem form_head (x : Nat) (r : List (BitVec 8)) : (form x ++ r).head? ≠ some 128#8 := by
  unfold form
  obtain ⟨n, hn⟩ : ∃ n, len x = n + 1 := ⟨len x - 1, by have := len_pos x; omega⟩
  rw [hn]
  show some (grp x n) ≠ _
  intro h
  injection h with h
  have h2 := congrArg BitVec.toNat h
  have e : (128#8 : BitVec 8).toNat = 128 := by decide
  rw [e] at h2
  by_cases hz : n = 0
  · subst hz; rw [grp_zero] at h2; omega
  · rw [grp_pos x n hz] at h2
    have t := len_top x (by omega)
    have b := len_bound x
    rw [hn] at t b
    rw [show n + 1 - 1 = n by omega] at t
    have p : 0 < 128 ^ n := Nat.pow_pos (by decide)
    have q1 : 1 ≤ x / 128 ^ n := (Nat.le_div_iff_mul_le p).2 (by omega)
    have q2 : x / 128 ^ n < 128 := (Nat.div_lt_iff_lt_mul p).2 (by rw [Nat.mul_comm, ← Nat.pow_succ]; exact b)
    omega
theorem form_num (x : Nat) (r : List (BitVec 8)) (h : x < 9223372036854775808) : numE (form x ++ r) = 0 ∧ numX (form x ++ r) = x ∧ numN (form x ++ r) = len x := by
  have e : numE (form x ++ r) = 0 := by
    unfold numE
    have := len_nine h; have := len_pos x
    rw [if_neg (form_head x r), form_lead, if_neg (by omega), if_neg (by rw [List.length_append, form_length]; omega)]
  have hp := len_pos x
  have ht : len x - 1 + 1 = len x := by omega
  refine ⟨e, ?_, ?_⟩
  · unfold numX; rw [if_pos e, form_lead, ht, List.take_left' (form_length x), val_form]
  · unfold numN; rw [if_pos e, form_lead, ht]
theorem num_err {b : List (BitVec 8)} (h : numE b ≠ 0) : numX b = 0 ∧ numN b = 0 := by
  unfold numX numN; rw [if_neg h, if_neg h]; exact ⟨rfl, rfl⟩
theorem num_ok {b : List (BitVec 8)} (h : numE b = 0) : lead b < 9 ∧ lead b < b.length ∧ b.head? ≠ some 128#8 := by
  unfold numE at h
  split at h
  · cases h
  · split at h
    · cases h
    · split at h
      · cases h
      · rename_i h1 h2 h3
        have := lead_le b
        exact ⟨by omega, by omega, h1⟩
theorem numX_lt (b : List (BitVec 8)) : numX b < 9223372036854775808 := by
  unfold numX; split
  · rename_i h
    obtain ⟨h1, h2, _⟩ := num_ok h
    have := val_lt (b.take (lead b + 1))
    rw [List.length_take] at this
    have h3 : 128 ^ (min (lead b + 1) b.length) ≤ 128 ^ 9 := Nat.pow_le_pow_right (by decide) (by omega)
    omega
  · decide
theorem numN_le (b : List (BitVec 8)) : numN b ≤ b.length ∧ numN b ≤ 9 := by
  unfold numN; split
  · rename_i h; obtain ⟨h1, h2, _⟩ := num_ok h; omega
  · omega
theorem numN_pos {b : List (BitVec 8)} (h : numE b = 0) : 1 ≤ numN b := by unfold numN; rw [if_pos h]; omega
theorem numE_cases (b : List (BitVec 8)) : numE b = 0 ∨ numE b = 10 ∨ numE b = 12 ∨ numE b = 11 := by
  unfold numE; split
  · exact Or.inr (Or.inr (Or.inr rfl))
  · split
    · exact Or.inr (Or.inr (Or.inl rfl))
    · split
      · exact Or.inr (Or.inl rfl)
      · exact Or.inl rfl
theorem down_mod (a v : Nat) : ∀ n, down (a * 128 ^ n + v) n = down v n := by
  have key : ∀ n m, n ≤ m → down (a * 128 ^ m + v) n = down v n := by
    intro n
    induction n with
    | zero => intro m _; rfl
    | succ n ih =>
      intro m hm
      rw [down, down, ih m (by omega)]
      congr 1
      have e : (a * 128 ^ m + v) / 128 ^ n % 128 = v / 128 ^ n % 128 := by
        have hp : 0 < 128 ^ n := Nat.pow_pos (by decide)
        obtain ⟨d, hd⟩ : ∃ d, m = n + (d + 1) := ⟨m - n - 1, by omega⟩
        have e2 : a * 128 ^ m = 128 ^ n * (a * 128 ^ d * 128) := by rw [hd, Nat.pow_add, Nat.pow_succ]; ac_rfl
        rw [e2, Nat.mul_add_div hp, Nat.mul_comm _ 128, Nat.mul_add_mod]
      unfold grp
      by_cases hz : n = 0
      · subst hz; simp at e; rw [if_pos rfl, if_pos rfl, e]
      · rw [if_neg hz, if_neg hz, e]
  exact fun n => key n n (Nat.le_refl _)
/-- Groups whose marks stand as they should are the groups of their number. -/
theorem down_val : ∀ (l : List (BitVec 8)), (∀ i c, l[i]? = some c → (128 ≤ c.toNat ↔ i + 1 < l.length)) → down (val l) l.length = l
  | [], _ => rfl
  | c :: t, h => by
    have ih := down_val t (fun i c' hi => by
      have := h (i + 1) c' (by simpa using hi)
      simp only [List.length_cons] at this; omega)
    have hv := val_lt t
    have h0 := h 0 c rfl
    rw [List.length_cons, down, val_cons, down_mod, ih]
    congr 1
    have hp : 0 < 128 ^ t.length := Nat.pow_pos (by decide)
    have hc := c.isLt
    have e : (c.toNat % 128 * 128 ^ t.length + val t) / 128 ^ t.length % 128 = c.toNat % 128 := by
      rw [Nat.mul_comm, Nat.mul_add_div hp, Nat.div_eq_of_lt hv]; omega
    apply BitVec.eq_of_toNat_eq
    by_cases hz : t.length = 0
    · rw [hz] at e ⊢
      simp only [Nat.pow_zero, Nat.div_one] at e
      rw [grp_zero, Nat.pow_zero, e]
      simp only [List.length_cons] at h0; omega
    · rw [grp_pos _ _ hz, e]
      simp only [List.length_cons] at h0; omega
/-- What is passed over is the one form. -/
theorem num_form {b : List (BitVec 8)} (h : numE b = 0) : b.take (numN b) = form (numX b) ∧ len (numX b) = numN b := by
  obtain ⟨h1, h2, h3⟩ := num_ok h
  have eN : numN b = lead b + 1 := by unfold numN; rw [if_pos h]
  have eX : numX b = val (b.take (lead b + 1)) := by unfold numX; rw [if_pos h]
  have hl : (b.take (lead b + 1)).length = lead b + 1 := by rw [List.length_take]; omega
  have hd := down_val (b.take (lead b + 1)) (fun i c hi => by
    have hi2 : i < lead b + 1 := by have := (List.getElem?_eq_some_iff.1 hi).1; rw [hl] at this; exact this
    rw [List.getElem?_take, if_pos hi2] at hi
    rw [hl]
    rcases Nat.lt_or_ge i (lead b) with hlt | hge
    · obtain ⟨c', e1, e2⟩ := lead_big b i hlt
      rw [e1] at hi; injection hi with hi; subst hi; omega
    · obtain rfl : i = lead b := by omega
      obtain ⟨c', e1, e2⟩ := lead_end b h2
      rw [e1] at hi; injection hi with hi; subst hi; omega)
  rw [hl, ← eX] at hd
  have hlen : len (numX b) = lead b + 1 := by
    have a1 : len (numX b) ≤ lead b + 1 := (len_le (by omega)).2 (by rw [eX]; have := val_lt (b.take (lead b + 1)); rwa [hl] at this)
    by_cases hz : lead b = 0
    · have := len_pos (numX b); omega
    · have a2 : lead b < len (numX b) := by
        refine (len_lt (by omega)).2 ?_
        obtain ⟨c, e1, e2⟩ := lead_big b 0 (by omega)
        cases b with
        | nil => simp at e1
        | cons x t =>
          simp at e1; subst e1
          have hx : x.toNat ≠ 128 := by
            intro hx; apply h3; simp; exact BitVec.eq_of_toNat_eq hx
          rw [eX, List.take_succ_cons, val_cons, List.length_take]
          have hlx : lead (x :: t) ≤ t.length := by simp at h2; omega
          rw [Nat.min_eq_left hlx]
          have hq : 1 ≤ x.toNat % 128 := by have := x.isLt; omega
          have := Nat.mul_le_mul_right (128 ^ lead (x :: t)) hq
          omega
      omega
  refine ⟨?_, by rw [hlen, eN]⟩
  unfold form; rw [hlen, hd, eN]
end Go.Proofs.YtmeoafodcniliaaGreatDoor.Vi
