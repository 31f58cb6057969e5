/- texts: lines, words, numbers: plain, no program in sight -/
import Derived.Test.YtmeoafodcniliaaGreatDoorWords
namespace Go.Proofs.YtmeoafodcniliaaGreatDoor.C4
set_option linter.unusedSimpArgs false
set_option linter.unusedVariables false
namespace Tx
abbrev By := BitVec 8
def isBl (c : By) : Bool := n8 c == 32 || n8 c == 9
def isHash (c : By) : Bool := n8 c == 35
/-- Where the words stand: places and lengths; st: where a word has begun; i: the place of the rest. -/
def sS : Option Nat → Nat → List By → List (Nat × Nat)
  | none, _, [] => []
  | some f, i, [] => [(f, i - f)]
  | none, i, c :: r => if isHash c then [] else if isBl c then sS none (i + 1) r else sS (some i) (i + 1) r
  | some f, i, c :: r => if isHash c then [(f, i - f)] else if isBl c then (f, i - f) :: sS none (i + 1) r else sS (some f) (i + 1) r
def spans (bs : List By) : List (Nat × Nat) := sS none 0 bs
def cutOut (bs : List By) (p : Nat × Nat) : List By := (bs.drop p.1).take p.2
def words (bs : List By) : List (List By) := (spans bs).map (cutOut bs)
theorem sS_none_nil (i : Nat) : sS none i [] = [] := rfl
theorem sS_hash (i : Nat) (c : By) (r : List By) (h : isHash c = true) : sS none i (c :: r) = [] := by simp [sS, h]
theorem sS_blank (i : Nat) (c : By) (r : List By) (h : isHash c = false) (hb : isBl c = true) : sS none i (c :: r) = sS none (i + 1) r := by simp [sS, h, hb]
theorem sS_word (i : Nat) (c : By) (r : List By) (h : isHash c = false) (hb : isBl c = false) : sS none i (c :: r) = sS (some i) (i + 1) r := by simp [sS, h, hb]
theorem sS_on (f i : Nat) (c : By) (r : List By) (h : isHash c = false) (hb : isBl c = false) : sS (some f) i (c :: r) = sS (some f) (i + 1) r := by simp [sS, h, hb]
theorem sS_end (f i : Nat) (r : List By) (h : ∀ c r', r = c :: r' → isHash c = true ∨ isBl c = true) : sS (some f) i r = (f, i - f) :: sS none i r := by
  cases r with
  | nil => rfl
  | cons c r =>
    rcases h c r rfl with h | h
    · simp [sS, h]
    · cases hh : isHash c <;> simp [sS, h, hh]
/-- Words lie within. -/
theorem sS_in : ∀ (r : List By) (st : Option Nat) (i : Nat), (∀ f, st = some f → f ≤ i) → ∀ p ∈ sS st i r, p.1 + p.2 ≤ i + r.length
  | [], none, i, _, p, hp => by simp [sS] at hp
  | [], some f, i, hf, p, hp => by
    have := hf f rfl
    simp [sS] at hp; subst hp; simp; omega
  | c :: r, none, i, _, p, hp => by
    unfold sS at hp
    split at hp
    · cases hp
    · split at hp
      · have := sS_in r none (i + 1) (by intro f h; cases h) p hp; simp; omega
      · have := sS_in r (some i) (i + 1) (by intro f h; injection h with h; omega) p hp; simp; omega
  | c :: r, some f, i, hf, p, hp => by
    have h0 := hf f rfl
    unfold sS at hp
    split at hp
    · simp at hp; subst hp; simp; omega
    · split at hp
      · rcases List.mem_cons.1 hp with h | h
        · subst h; simp; omega
        · have := sS_in r none (i + 1) (by intro f h; cases h) p h; simp; omega
      · have := sS_in r (some f) (i + 1) (by intro g h; injection h with h; omega) p hp; simp; omega
theorem spans_in (bs : List By) (p : Nat × Nat) (hp : p ∈ spans bs) : p.1 + p.2 ≤ bs.length := by
  have := sS_in bs none 0 (by intro f h; cases h) p hp; omega
theorem sS_count : ∀ (r : List By) (st : Option Nat) (i : Nat), (sS st i r).length ≤ r.length + 1
  | [], none, i => by simp [sS]
  | [], some f, i => by simp [sS]
  | c :: r, none, i => by
    unfold sS; split
    · simp
    · split
      · have := sS_count r none (i + 1); simp; omega
      · have := sS_count r (some i) (i + 1); simp; omega
  | c :: r, some f, i => by
    unfold sS; split
    · simp
    · split
      · have := sS_count r none (i + 1); simp; omega
      · have := sS_count r (some f) (i + 1); simp; omega
/-! numbers -/
def isDig (c : By) : Bool := decide (48 ≤ n8 c) && decide (n8 c ≤ 57)
def valF (acc : Nat) (w : List By) : Nat := w.foldl (fun a c => 10 * a + (n8 c - 48)) acc
/-- What a word says as a number. -/
def num (w : List By) : Int × Bool :=
  if w.length = 0 ∨ 10 < w.length ∨ (1 < w.length ∧ (w.getD 0 0).toNat = 48) then (0, false)
  else if w.all isDig then ((valF 0 w : Nat), decide (valF 0 w ≤ 2147483647)) else (0, false)
theorem valF_take (w : List By) (a : Nat) (c : By) (h : w[a]? = some c) : valF 0 (w.take (a + 1)) = 10 * valF 0 (w.take a) + (n8 c - 48) := by
  unfold valF; rw [List.take_add_one, h]; simp
theorem valF_lt (w : List By) (hd : w.all isDig = true) : ∀ a, a ≤ w.length → valF 0 (w.take a) < 10 ^ a
  | 0, _ => by simp [valF]
  | a + 1, h => by
    have ih := valF_lt w hd a (by omega)
    rw [valF_take w a _ (List.getElem?_eq_getElem (by omega))]
    have hc : isDig (w[a]'(by omega)) = true := List.all_eq_true.1 hd _ (List.getElem_mem _)
    unfold isDig at hc; simp at hc
    rw [Nat.pow_succ]; omega
/-- Two vertices of two words. -/
def two (a b : List By) (n : Int) : Int × Int × Int :=
  if (num a).2 = false ∨ (num b).2 = false then (0, 0, 40) else if n ≤ (num a).1 ∨ n ≤ (num b).1 then (0, 0, 42) else ((num a).1, (num b).1, 0)
/-- What a line answers: its pair, whether it says one, its error; what has been said of n. -/
structure Sc where
  u : Int
  v : Int
  says : Bool
  e : Int
  n : Int
  begun : Bool
def vertices : List By := [118#8, 101#8, 114#8, 116#8, 105#8, 99#8, 101#8, 115#8]
def scan (n : Int) (begun : Bool) (ws : List (List By)) : Sc :=
  match ws with
  | [] => ⟨0, 0, false, 0, n, begun⟩
  | [a, b] =>
    if begun then ⟨(two a b n).1, (two a b n).2.1, decide ((two a b n).2.2 = 0), (two a b n).2.2, n, begun⟩
    else if a ≠ vertices ∨ (num b).2 = false then ⟨0, 0, false, 40, n, begun⟩
    else if 16777216 < (num b).1 then ⟨0, 0, false, 41, n, begun⟩
    else ⟨0, 0, false, 0, (num b).1, true⟩
  | _ => ⟨0, 0, false, 40, n, begun⟩
/-! lines -/
def nlIdx : List By → Option Nat
  | [] => none
  | c :: r => if n8 c = 10 then some 0 else (nlIdx r).map (· + 1)
theorem nlIdx_lt : ∀ {bs : List By} {i : Nat}, nlIdx bs = some i → i < bs.length
  | c :: r, i, h => by
    unfold nlIdx at h
    split at h
    · injection h with h; subst h; simp
    · cases hr : nlIdx r with
      | none => rw [hr] at h; cases h
      | some j => rw [hr] at h; simp at h; subst h; have := nlIdx_lt hr; simp; omega
/-- The lines that a newline ends, and what stands behind the last one. -/
def split : Nat → List By → List (List By) × List By
  | 0, bs => ([], bs)
  | k + 1, bs => match nlIdx bs with
    | none => ([], bs)
    | some i => (bs.take i :: (split k (bs.drop (i + 1))).1, (split k (bs.drop (i + 1))).2)
def whole (bs : List By) : List (List By) := (split bs.length bs).1
def tail (bs : List By) : List By := (split bs.length bs).2
theorem split_fuel : ∀ (k j : Nat) (bs : List By), bs.length ≤ k → bs.length ≤ j → split k bs = split j bs
  | 0, j, bs, h, _ => by
    have : bs = [] := List.eq_nil_of_length_eq_zero (by omega)
    subst this
    cases j <;> simp [split, nlIdx]
  | k + 1, 0, bs, _, h => by
    have : bs = [] := List.eq_nil_of_length_eq_zero (by omega)
    subst this
    simp [split, nlIdx]
  | k + 1, j + 1, bs, h1, h2 => by
    unfold split
    cases hi : nlIdx bs with
    | none => rfl
    | some i =>
      have hl := nlIdx_lt hi
      dsimp only
      rw [split_fuel k j (bs.drop (i + 1)) (by simp; omega) (by simp; omega)]
theorem whole_none {bs : List By} (h : nlIdx bs = none) : whole bs = [] ∧ tail bs = bs := by
  unfold whole tail
  cases hl : bs.length with
  | zero => exact ⟨rfl, rfl⟩
  | succ k => unfold split; rw [h]; exact ⟨rfl, rfl⟩
theorem whole_some {bs : List By} {i : Nat} (h : nlIdx bs = some i) : whole bs = bs.take i :: whole (bs.drop (i + 1)) ∧ tail bs = tail (bs.drop (i + 1)) := by
  have hl := nlIdx_lt h
  unfold whole tail
  obtain ⟨k, hk⟩ : ∃ k, bs.length = k + 1 := ⟨bs.length - 1, by omega⟩
  have e : split (k + 1) bs = (bs.take i :: (split k (bs.drop (i + 1))).1, (split k (bs.drop (i + 1))).2) := by rw [split, h]
  rw [split_fuel (bs.drop (i + 1)).length k _ (Nat.le_refl _) (by simp; omega), hk, e]
  exact ⟨rfl, rfl⟩
/-- What lines say up to the first fault: pairs, error, how many were taken in, what is known then. -/
structure Run where
  pairs : List (Int × Int)
  e : Int
  k : Nat
  n : Int
  begun : Bool
def run (n : Int) (begun : Bool) : List (List By) → Run
  | [] => ⟨[], 0, 0, n, begun⟩
  | l :: ls =>
    let s := scan n begun (words l)
    if s.e ≠ 0 then ⟨[], s.e, 1, s.n, s.begun⟩
    else ⟨(if s.says then [(s.u, s.v)] else []) ++ (run s.n s.begun ls).pairs, (run s.n s.begun ls).e, (run s.n s.begun ls).k + 1, (run s.n s.begun ls).n, (run s.n s.begun ls).begun⟩
end Tx
end Go.Proofs.YtmeoafodcniliaaGreatDoor.C4
