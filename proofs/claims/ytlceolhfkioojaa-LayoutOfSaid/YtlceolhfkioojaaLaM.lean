/- Layouts: plain mathematics, no program. -/
import Derived.Test.YtlceolhfkioojaaWords
namespace Go.Proofs.Ytlceolhfkioojaa.La
set_option linter.unusedSimpArgs false
set_option linter.unusedVariables false
def rises : Int → List Int → Bool
  | _, [] => true
  | a, c :: t => decide (a < c) && rises c t
def lastI : Int → List Int → Int
  | a, [] => a
  | _, c :: t => lastI c t
theorem rises_cons {a c : Int} {t : List Int} : rises a (c :: t) = true ↔ a < c ∧ rises c t = true := by simp [rises]
theorem rises_append : ∀ (l : List Int) (a x : Int), rises a (l ++ [x]) = true ↔ rises a l = true ∧ lastI a l < x
  | [], a, x => by simp [rises, lastI]
  | c :: t, a, x => by
    rw [List.cons_append, rises_cons, rises_cons, rises_append t c x, lastI]
    constructor <;> (rintro ⟨h1, h2⟩; first | exact ⟨⟨h1, h2.1⟩, h2.2⟩ | exact ⟨h1.1, h1.2, h2⟩)
theorem lastI_append : ∀ (l : List Int) (a x : Int), lastI a (l ++ [x]) = x
  | [], a, x => rfl
  | c :: t, a, x => by rw [List.cons_append, lastI, lastI_append t c x]
theorem rises_le : ∀ (l : List Int) (a : Int), rises a l = true → a ≤ lastI a l
  | [], a, _ => by simp [lastI]
  | c :: t, a, h => by
    rw [rises_cons] at h
    have := rises_le t c h.2
    rw [lastI]; omega
theorem rises_take : ∀ (l : List Int) (a : Int) (k : Nat), rises a l = true → rises a (l.take k) = true
  | [], a, k, _ => by simp [rises]
  | c :: t, a, 0, _ => by simp [rises]
  | c :: t, a, k + 1, h => by
    rw [rises_cons] at h
    rw [List.take_succ_cons, rises_cons]
    exact ⟨h.1, rises_take t c k h.2⟩
theorem lastI_get : ∀ (l : List Int) (a : Int), l ≠ [] → lastI a l = l.getD (l.length - 1) 0
  | [], a, h => absurd rfl h
  | [c], a, _ => rfl
  | c :: d :: t, a, _ => by
    rw [lastI, lastI_get (d :: t) c (by simp)]
    simp [List.getD]
theorem rises_gt : ∀ (l : List Int) (a : Int) (i : Nat), rises a l = true → i < l.length → a < l.getD i 0 ∧ l.getD i 0 ≤ lastI a l
  | [], a, i, _, h => by simp at h
  | c :: t, a, 0, h, _ => by
    rw [rises_cons] at h
    have := rises_le t c h.2
    rw [lastI]
    show a < c ∧ c ≤ _
    omega
  | c :: t, a, i + 1, h, hi => by
    rw [rises_cons] at h
    have := rises_gt t c i h.2 (by simpa using hi)
    rw [lastI]
    show a < t.getD i 0 ∧ t.getD i 0 ≤ _
    omega
theorem rises_step : ∀ (l : List Int) (a : Int) (i : Nat), rises a l = true → i + 1 < l.length → l.getD i 0 < l.getD (i + 1) 0
  | [], a, i, _, h => by simp at h
  | c :: t, a, 0, h, hi => by
    rw [rises_cons] at h
    exact (rises_gt t c 0 h.2 (by simpa using hi)).1
  | c :: t, a, i + 1, h, hi => by
    rw [rises_cons] at h
    exact rises_step t c i h.2 (by simpa using hi)
/-- How many cuts are not above v. -/
def cnt (zs : List Int) (v : Int) : Nat := zs.countP fun c => decide (c ≤ v)
theorem cnt_none : ∀ (l : List Int) (a v : Int), rises a l = true → v ≤ a → cnt l v = 0
  | [], a, v, _, _ => rfl
  | c :: t, a, v, h, hv => by
    rw [rises_cons] at h
    have := cnt_none t c v h.2 (by omega)
    unfold cnt at this ⊢
    rw [List.countP_cons, this, decide_eq_false (by omega)]; rfl
theorem cnt_spec : ∀ (l : List Int) (a v : Int) (i : Nat), rises a l = true → i < l.length → (l.getD i 0 ≤ v ↔ i < cnt l v)
  | [], a, v, i, _, h => by simp at h
  | c :: t, a, v, i, h, hi => by
    rw [rises_cons] at h
    by_cases hc : c ≤ v
    · have e : cnt (c :: t) v = cnt t v + 1 := by unfold cnt; rw [List.countP_cons, decide_eq_true hc]; rfl
      rw [e]
      cases i with
      | zero => show c ≤ v ↔ _; omega
      | succ i =>
        have := cnt_spec t c v i h.2 (by simpa using hi)
        show t.getD i 0 ≤ v ↔ _
        omega
    · have e : cnt (c :: t) v = 0 := by
        have := cnt_none t c v h.2 (by omega)
        unfold cnt at this ⊢
        rw [List.countP_cons, this, decide_eq_false hc]; rfl
      rw [e]
      have := (rises_gt (c :: t) a i (by rw [rises_cons]; exact h) hi)
      have h2 : c ≤ (c :: t).getD i 0 := by
        cases i with
        | zero => exact Int.le_refl _
        | succ i => have := (rises_gt t c i h.2 (by simpa using hi)).1; show c ≤ t.getD i 0; omega
      constructor <;> intro h3 <;> omega
theorem cnt_range (zs : List Int) (v : Int) : (List.range zs.length).countP (fun i => !(decide (v < zs.getD i 0))) = cnt zs v := by
  unfold cnt
  have e : zs = (List.range zs.length).map fun i => zs.getD i 0 := by
    apply List.ext_getElem
    · simp
    · intro i h1 h2
      simp [List.getD, List.getElem?_eq_getElem h1]
  conv => rhs; rw [e, List.countP_map]
  congr 1
  funext i
  simp only [Function.comp]
  by_cases h : v < zs.getD i 0
  · rw [decide_eq_true h, decide_eq_false (by omega)]; rfl
  · rw [decide_eq_false h, decide_eq_true (by omega)]; rfl
def shardP (zs : List Int) (v : Int) : Int := if v < 0 ∨ lastI 0 zs ≤ v then -1 else (cnt zs v : Int)
def lo (zs : List Int) (i : Nat) : Int := if i = 0 then 0 else zs.getD (i - 1) 0
def rng (zs : List Int) (i : Int) : Int × Int := if i < 0 ∨ (zs.length : Int) ≤ i then (0, 0) else (lo zs i.toNat, zs.getD i.toNat 0)
theorem lo_zero (zs : List Int) : lo zs 0 = 0 := rfl
theorem lo_succ (zs : List Int) (i : Nat) : lo zs (i + 1) = zs.getD i 0 := by unfold lo; rw [if_neg (by omega)]; rfl
theorem lo_lt (zs : List Int) (i : Nat) (h : rises 0 zs = true) (hi : i < zs.length) : 0 ≤ lo zs i ∧ lo zs i < zs.getD i 0 := by
  cases i with
  | zero => have := rises_gt zs 0 0 h hi; rw [lo_zero]; omega
  | succ i =>
    have := rises_gt zs 0 i h (by omega)
    have := rises_step zs 0 i h hi
    rw [lo_succ]; omega
theorem shard_iff (zs : List Int) (v : Int) (i : Nat) (h : rises 0 zs = true) (hi : i < zs.length) : shardP zs v = (i : Int) ↔ lo zs i ≤ v ∧ v < zs.getD i 0 := by
  have hl := lo_lt zs i h hi
  have hg := rises_gt zs 0 i h hi
  have hs := cnt_spec zs 0 v i h hi
  unfold shardP
  constructor
  · intro he
    split at he
    · omega
    · have hc : cnt zs v = i := by omega
      refine ⟨?_, by omega⟩
      cases i with
      | zero => rw [lo_zero]; omega
      | succ i =>
        have := cnt_spec zs 0 v i h (by omega)
        rw [lo_succ]; omega
  · rintro ⟨h1, h2⟩
    rw [if_neg (by omega)]
    cases i with
    | zero => omega
    | succ i =>
      have := cnt_spec zs 0 v i h (by omega)
      rw [lo_succ] at h1
      omega
theorem cnt_lt (zs : List Int) (v : Int) (h : rises 0 zs = true) (h0 : 0 ≤ v) (hv : v < lastI 0 zs) : cnt zs v < zs.length := by
  have hne : zs ≠ [] := by rintro rfl; simp [lastI] at hv; omega
  have hpos : 0 < zs.length := List.length_pos_iff.2 hne
  have := cnt_spec zs 0 v (zs.length - 1) h (by omega)
  rw [← lastI_get zs 0 hne] at this
  omega
theorem shard_lt (zs : List Int) (v : Int) (h : rises 0 zs = true) : shardP zs v = -1 ∨ ∃ i : Nat, i < zs.length ∧ shardP zs v = (i : Int) := by
  unfold shardP
  split
  · exact Or.inl rfl
  · right; exact ⟨cnt zs v, cnt_lt zs v h (by omega) (by omega), rfl⟩
theorem shard_neg (zs : List Int) (v : Int) : shardP zs v = -1 ↔ v < 0 ∨ lastI 0 zs ≤ v := by
  unfold shardP; split
  · rename_i h; exact ⟨fun _ => h, fun _ => rfl⟩
  · rename_i h; constructor
    · intro h2; omega
    · intro h2; exact absurd h2 h
theorem rng_in (zs : List Int) (i : Nat) (hi : i < zs.length) : rng zs (i : Int) = (lo zs i, zs.getD i 0) := by
  unfold rng; rw [if_neg (by omega), Int.toNat_natCast]
theorem rng_out (zs : List Int) (i : Int) (hi : i < 0 ∨ (zs.length : Int) ≤ i) : rng zs i = (0, 0) := by unfold rng; rw [if_pos hi]
/-- The shards of some vertices. -/
def ofL (zs vs : List Int) : List Int := ((List.range zs.length).filter fun i : Nat => vs.any fun v => decide (shardP zs v = (i : Int))).map fun i : Nat => (i : Int)
def ofK (zs vs : List Int) (a : Nat) : List Int := ((List.range a).filter fun i : Nat => vs.any fun v => decide (shardP zs v = (i : Int))).map fun i : Nat => (i : Int)
theorem ofL_eq (zs vs : List Int) : ofL zs vs = ofK zs vs zs.length := rfl
theorem ofK_succ (zs vs : List Int) (a : Nat) : ofK zs vs (a + 1) = ofK zs vs a ++ (if (vs.any fun v => decide (shardP zs v = (a : Int))) = true then [(a : Int)] else []) := by
  unfold ofK
  rw [List.range_succ, List.filter_append, List.map_append]
  congr 1
  by_cases h : (vs.any fun v => decide (shardP zs v = (a : Int))) = true
  · rw [if_pos h]; simp only [List.filter_cons, List.filter_nil, h, if_true]; rfl
  · rw [if_neg h]; simp only [List.filter_cons, List.filter_nil, h]; rfl
def newOk (n : Int) (cuts : List Int) : Bool := rises 0 cuts && decide (lastI 0 cuts = n) && decide (cuts.length ≤ 1000)
def newE (n : Int) (cuts : List Int) : Int := if n < 0 ∨ 16777216 < n then 41 else if newOk n cuts = true then 0 else 100
def many (n s : Int) : Bool := if n = 0 then decide (s = 0) else decide (1 ≤ s) && decide (s ≤ n) && decide (s ≤ 1000)
def evenE (n s : Int) : Int := if n < 0 ∨ 16777216 < n then 41 else if many n s = true then 0 else 100
def evenL (n s : Int) (k : Nat) : List Int := (List.range k).map fun i : Nat => ((i : Int) + 1) * n / s
theorem evenL_succ (n s : Int) (k : Nat) : evenL n s (k + 1) = evenL n s k ++ [((k : Int) + 1) * n / s] := by unfold evenL; rw [List.range_succ, List.map_append]; rfl
theorem evenL_length (n s : Int) (k : Nat) : (evenL n s k).length = k := by simp [evenL]
theorem evenL_get (n s : Int) (k i : Nat) (h : i < k) : (evenL n s k).getD i 0 = ((i : Int) + 1) * n / s := by simp [evenL, List.getD, h]
/-- The widths of Even's shards. -/
theorem even_step (n s : Int) (i : Nat) (hs : 0 < s) (hn : 0 ≤ n) : n / s ≤ ((i : Int) + 1) * n / s - (i : Int) * n / s ∧ ((i : Int) + 1) * n / s - (i : Int) * n / s ≤ n / s + 1 := by
  have e : ((i : Int) + 1) * n = (i : Int) * n + n := by rw [Int.add_mul, Int.one_mul]
  rw [e]
  generalize (i : Int) * n = x
  have a1 := Int.emod_add_mul_ediv x s
  have a2 := Int.emod_add_mul_ediv n s
  have a3 := Int.emod_add_mul_ediv (x + n) s
  have b1 := Int.emod_nonneg x (show s ≠ 0 by omega)
  have b2 := Int.emod_nonneg n (show s ≠ 0 by omega)
  have b3 := Int.emod_nonneg (x + n) (show s ≠ 0 by omega)
  have c1 := Int.emod_lt_of_pos x hs
  have c2 := Int.emod_lt_of_pos n hs
  have c3 := Int.emod_lt_of_pos (x + n) hs
  generalize x / s = p at *
  generalize n / s = q at *
  generalize (x + n) / s = r at *
  generalize x % s = p' at *
  generalize n % s = q' at *
  generalize (x + n) % s = r' at *
  have k1 : s * r < s * (p + q + 2) := by rw [Int.mul_add, Int.mul_add]; omega
  have k2 : s * (p + q) < s * (r + 1) := by rw [Int.mul_add, Int.mul_add]; omega
  have l1 := Int.lt_of_mul_lt_mul_left k1 (by omega)
  have l2 := Int.lt_of_mul_lt_mul_left k2 (by omega)
  omega
theorem evenL_last (n s : Int) (hs : 0 < s) (hn : 0 ≤ n) : ∀ k : Nat, lastI 0 (evenL n s k) = (k : Int) * n / s
  | 0 => by simp [evenL, lastI]
  | k + 1 => by rw [evenL_succ, lastI_append]; norm_cast
theorem evenL_rises (n s : Int) (hs : 0 < s) (hn : s ≤ n) : ∀ k : Nat, rises 0 (evenL n s k) = true
  | 0 => by simp [evenL, rises]
  | k + 1 => by
    rw [evenL_succ, rises_append]
    refine ⟨evenL_rises n s hs hn k, ?_⟩
    rw [evenL_last n s hs (by omega)]
    have := (even_step n s k hs (by omega)).1
    have hq : 1 ≤ n / s := Int.le_ediv_of_mul_le hs (by omega)
    omega
/-! weights -/
def wt (ds : List Int) (c : Nat) : Int := (ds.take c).foldl (fun a d => a + (d + 1)) 0
theorem wt_zero (ds : List Int) : wt ds 0 = 0 := by simp [wt]
theorem wt_succ (ds : List Int) (c : Nat) (d : Int) (h : ds[c]? = some d) : wt ds (c + 1) = wt ds c + (d + 1) := by
  unfold wt; rw [List.take_add_one, h, Option.toList_some, List.foldl_append]; rfl
def degOk (ds : List Int) : Bool := ds.all fun d => decide (0 ≤ d) && decide (d ≤ 16777216)
def balE (ds : List Int) (s : Int) : Int := if 16777216 < (ds.length : Int) then 41 else if degOk ds = true then (if many ds.length s = true then 0 else 100) else 101
/-- Going on while there is room and weight is lacking. -/
def adv (W : Nat → Int) (lim s tgt : Int) : Nat → Nat → Nat
  | 0, c => c
  | f + 1, c => if (c : Int) < lim ∧ W c * s < tgt then adv W lim s tgt f (c + 1) else c
def nx (ds : List Int) (s : Nat) (i c : Nat) : Nat := adv (wt ds) ((ds.length : Int) - ((s : Int) - 1 - i)) s (((i : Int) + 1) * wt ds ds.length) ds.length (c + 1)
def balC (ds : List Int) (s : Nat) : Nat → Nat
  | 0 => 0
  | i + 1 => nx ds s i (balC ds s i)
def balL (ds : List Int) (s k : Nat) : List Int := (List.range k).map fun i => (balC ds s (i + 1) : Int)
theorem balL_succ (ds : List Int) (s k : Nat) : balL ds s (k + 1) = balL ds s k ++ [(balC ds s (k + 1) : Int)] := by unfold balL; rw [List.range_succ, List.map_append]; rfl
theorem balL_length (ds : List Int) (s k : Nat) : (balL ds s k).length = k := by simp [balL]
theorem balL_get (ds : List Int) (s k i : Nat) (h : i < k) : (balL ds s k).getD i 0 = (balC ds s (i + 1) : Int) := by simp [balL, List.getD, h]
theorem adv_ge (W : Nat → Int) (lim s tgt : Int) : ∀ (f c : Nat), c ≤ adv W lim s tgt f c
  | 0, c => Nat.le_refl _
  | f + 1, c => by
    rw [adv]; split
    · have := adv_ge W lim s tgt f (c + 1); omega
    · exact Nat.le_refl _
theorem adv_le (W : Nat → Int) (lim s tgt : Int) : ∀ (f c : Nat), (adv W lim s tgt f c : Int) ≤ max (c : Int) lim
  | 0, c => by rw [adv]; omega
  | f + 1, c => by
    rw [adv]; split
    · have := adv_le W lim s tgt f (c + 1); omega
    · omega
/-- Where it stands there is no room or no lack. -/
theorem adv_end (W : Nat → Int) (lim s tgt : Int) : ∀ (f c : Nat), lim ≤ (c : Int) + f → ¬ ((adv W lim s tgt f c : Int) < lim ∧ W (adv W lim s tgt f c) * s < tgt)
  | 0, c, h => by rw [adv]; omega
  | f + 1, c, h => by
    rw [adv]; split
    · exact adv_end W lim s tgt f (c + 1) (by omega)
    · assumption
/-- Behind its beginning there was room, and lack. -/
theorem adv_mid (W : Nat → Int) (lim s tgt : Int) : ∀ (f c : Nat), c < adv W lim s tgt f c → (adv W lim s tgt f c - 1 : Int) < lim ∧ W (adv W lim s tgt f c - 1) * s < tgt
  | 0, c, h => by rw [adv] at h; omega
  | f + 1, c, h => by
    rw [adv] at h ⊢
    split at h
    · rename_i hc
      rw [if_pos hc]
      by_cases hlt : c + 1 < adv W lim s tgt f (c + 1)
      · exact adv_mid W lim s tgt f (c + 1) hlt
      · have := adv_ge W lim s tgt f (c + 1)
        have e : adv W lim s tgt f (c + 1) = c + 1 := by omega
        rw [e]
        exact ⟨by omega, hc.2⟩
    · omega
end Go.Proofs.Ytlceolhfkioojaa.La
