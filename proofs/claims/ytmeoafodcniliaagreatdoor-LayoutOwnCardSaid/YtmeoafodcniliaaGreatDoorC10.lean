/- from chapter 10: what is wanted here -/
import Derived.Test.YtmeoafodcniliaaGreatDoorInts
import Derived.Test.YtmeoafodcniliaaGreatDoorWords
import Derived.Test.YtmeoafodcniliaaGreatDoorStepA
import Derived.Test.YtmeoafodcniliaaGreatDoorThen
import Derived.Laws.Bits128
import Derived.Deep.MidRow
import Derived.Laws.Bits64b
import Derived.WalkKit
import Derived.ProofKit
import Derived.OpenShut
import Derived.LaidMore
import Derived.ShutString
import Derived.ChangeOld
import Derived.Lib.SmallJoins
import Derived.Test.YtmeoafodcniliaaGreatDoorRows
namespace Go.Proofs.YtmeoafodcniliaaGreatDoor
open Go.RowKit
set_option linter.unusedSimpArgs false
set_option linter.unusedVariables false
set_option maxRecDepth 20000
namespace La
def rises : Int → List Int → Bool
  | _, [] => true
  | a, c :: t => decide (a < c) && rises c t
def lastI : Int → List Int → Int
  | a, [] => a
  | _, c :: t => lastI c t
theorem rises_cons {a c : Int} {t : List Int} : rises a (c :: t) = true ↔ a < c ∧ rises c t = true := by simp [rises]
theorem rises_append : ∀ (l : List Int) (a x : Int), rises a (l ++ [x]) = true ↔ rises a l = true ∧ lastI a l < x
  | [], a, x => by simp [rises, lastI]
  | c :: t, a, x => by
    rw [List.cons_append, rises_cons, rises_cons, rises_append t c x, lastI]
    constructor <;> (rintro ⟨h1, h2⟩; first | exact ⟨⟨h1, h2.1⟩, h2.2⟩ | exact ⟨h1.1, h1.2, h2⟩)
theorem lastI_append : ∀ (l : List Int) (a x : Int), lastI a (l ++ [x]) = x
  | [], a, x => rfl
  | c :: t, a, x => by rw [List.cons_append, lastI, lastI_append t c x]
theorem rises_le : ∀ (l : List Int) (a : Int), rises a l = true → a ≤ lastI a l
  | [], a, _ => by simp [lastI]
  | c :: t, a, h => by
    rw [rises_cons] at h
    have := rises_le t c h.2
    rw [lastI]; omega
theorem rises_take : ∀ (l : List Int) (a : Int) (k : Nat), rises a l = true → rises a (l.take k) = true
  | [], a, k, _ => by simp [rises]
  | c :: t, a, 0, _ => by simp [rises]
  | c :: t, a, k + 1, h => by
    rw [rises_cons] at h
    rw [List.take_succ_cons, rises_cons]
    exact ⟨h.1, rises_take t c k h.2⟩
theorem lastI_get : ∀ (l : List Int) (a : Int), l ≠ [] → lastI a l = l.getD (l.length - 1) 0
  | [], a, h => absurd rfl h
  | [c], a, _ => rfl
  | c :: d :: t, a, _ => by
    rw [lastI, lastI_get (d :: t) c (by simp)]
    simp [List.getD]
theorem rises_gt : ∀ (l : List Int) (a : Int) (i : Nat), rises a l = true → i < l.length → a < l.getD i 0 ∧ l.getD i 0 ≤ lastI a l
  | [], a, i, _, h => by simp at h
  | c :: t, a, 0, h, _ => by
    rw [rises_cons] at h
    have := rises_le t c h.2
    rw [lastI]
    show a < c ∧ c ≤ _
    omega
  | c :: t, a, i + 1, h, hi => by
    rw [rises_cons] at h
    have := rises_gt t c i h.2 (by simpa using hi)
    rw [lastI]
    show a < t.getD i 0 ∧ t.getD i 0 ≤ _
    omega
theorem rises_step : ∀ (l : List Int) (a : Int) (i : Nat), rises a l = true → i + 1 < l.length → l.getD i 0 < l.getD (i + 1) 0
  | [], a, i, _, h => by simp at h
  | c :: t, a, 0, h, hi => by
    rw [rises_cons] at h
    exact (rises_gt t c 0 h.2 (by simpa using hi)).1
  | c :: t, a, i + 1, h, hi => by
    rw [rises_cons] at h
    exact rises_step t c i h.2 (by simpa using hi)
/-- How many cuts are not above v. -/
def cnt (zs : List Int) (v : Int) : Nat := zs.countP fun c => decide (c ≤ v)
theorem cnt_none : ∀ (l : List Int) (a v : Int), rises a l = true → v ≤ a → cnt l v = 0
  | [], a, v, _, _ => rfl
  | c :: t, a, v, h, hv => by
    rw [rises_cons] at h
    have := cnt_none t c v h.2 (by omega)
    unfold cnt at this ⊢
    rw [List.countP_cons, this, decide_eq_false (by omega)]; rfl
theorem cnt_spec : ∀ (l : List Int) (a v : Int) (i : Nat), rises a l = true → i < l.length → (l.getD i 0 ≤ v ↔ i < cnt l v)
  | [], a, v, i, _, h => by simp at h
  | c :: t, a, v, i, h, hi => by
    rw [rises_cons] at h
    by_cases hc : c ≤ v
    · have e : cnt (c :: t) v = cnt t v + 1 := by unfold cnt; rw [List.countP_cons, decide_eq_true hc]; rfl
      rw [e]
      cases i with
      | zero => show c ≤ v ↔ _; omega
      | succ i =>
        have := cnt_spec t c v i h.2 (by simpa using hi)
        show t.getD i 0 ≤ v ↔ _
        omega
    · have e : cnt (c :: t) v = 0 := by
        have := cnt_none t c v h.2 (by omega)
        unfold cnt at this ⊢
        rw [List.countP_cons, this, decide_eq_false hc]; rfl
      rw [e]
      have := (rises_gt (c :: t) a i (by rw [rises_cons]; exact h) hi)
      have h2 : c ≤ (c :: t).getD i 0 := by
        cases i with
        | zero => exact Int.le_refl _
        | succ i => have := (rises_gt t c i h.2 (by simpa using hi)).1; show c ≤ t.getD i 0; omega
      constructor <;> intro h3 <;> omega
def shardP (zs : List Int) (v : Int) : Int := if v < 0 ∨ lastI 0 zs ≤ v then -1 else (cnt zs v : Int)
def lo (zs : List Int) (i : Nat) : Int := if i = 0 then 0 else zs.getD (i - 1) 0
def rng (zs : List Int) (i : Int) : Int × Int := if i < 0 ∨ (zs.length : Int) ≤ i then (0, 0) else (lo zs i.toNat, zs.getD i.toNat 0)
theorem lo_zero (zs : List Int) : lo zs 0 = 0 := rfl
theorem lo_succ (zs : List Int) (i : Nat) : lo zs (i + 1) = zs.getD i 0 := by unfold lo; rw [if_neg (by omega)]; rfl
theorem lo_lt (zs : List Int) (i : Nat) (h : rises 0 zs = true) (hi : i < zs.length) : 0 ≤ lo zs i ∧ lo zs i < zs.getD i 0 := by
  cases i with
  | zero => have := rises_gt zs 0 0 h hi; rw [lo_zero]; omega
  | succ i =>
    have := rises_gt zs 0 i h (by omega)
    have := rises_step zs 0 i h hi
    rw [lo_succ]; omega
theorem shard_iff (zs : List Int) (v : Int) (i : Nat) (h : rises 0 zs = true) (hi : i < zs.length) : shardP zs v = (i : Int) ↔ lo zs i ≤ v ∧ v < zs.getD i 0 := by
  have hl := lo_lt zs i h hi
  have hg := rises_gt zs 0 i h hi
  have hs := cnt_spec zs 0 v i h hi
  unfold shardP
  constructor
  · intro he
    split at he
    · omega
    · have hc : cnt zs v = i := by omega
      refine ⟨?_, by omega⟩
      cases i with
      | zero => rw [lo_zero]; omega
      | succ i =>
        have := cnt_spec zs 0 v i h (by omega)
        rw [lo_succ]; omega
  · rintro ⟨h1, h2⟩
    rw [if_neg (by omega)]
    cases i with
    | zero => omega
    | succ i =>
      have := cnt_spec zs 0 v i h (by omega)
      rw [lo_succ] at h1
      omega
theorem cnt_lt (zs : List Int) (v : Int) (h : rises 0 zs = true) (h0 : 0 ≤ v) (hv : v < lastI 0 zs) : cnt zs v < zs.length := by
  have hne : zs ≠ [] := by rintro rfl; simp [lastI] at hv; omega
  have hpos : 0 < zs.length := List.length_pos_iff.2 hne
  have := cnt_spec zs 0 v (zs.length - 1) h (by omega)
  rw [← lastI_get zs 0 hne] at this
  omega
theorem shard_lt (zs : List Int) (v : Int) (h : rises 0 zs = true) : shardP zs v = -1 ∨ ∃ i : Nat, i < zs.length ∧ shardP zs v = (i : Int) := by
  unfold shardP
  split
  · exact Or.inl rfl
  · right; exact ⟨cnt zs v, cnt_lt zs v h (by omega) (by omega), rfl⟩
theorem shard_neg (zs : List Int) (v : Int) : shardP zs v = -1 ↔ v < 0 ∨ lastI 0 zs ≤ v := by
  unfold shardP; split
  · rename_i h; exact ⟨fun _ => h, fun _ => rfl⟩
  · rename_i h; constructor
    · intro h2; omega
    · intro h2; exact absurd h2 h
theorem rng_in (zs : List Int) (i : Nat) (hi : i < zs.length) : rng zs (i : Int) = (lo zs i, zs.getD i 0) := by
  unfold rng; rw [if_neg (by omega), Int.toNat_natCast]
theorem rng_out (zs : List Int) (i : Int) (hi : i < 0 ∨ (zs.length : Int) ≤ i) : rng zs i = (0, 0) := by unfold rng; rw [if_pos hi]
/-- The shards of some vertices. -/
def ofL (zs vs : List Int) : List Int := ((List.range zs.length).filter fun i : Nat => vs.any fun v => decide (shardP zs v = (i : Int))).map fun i : Nat => (i : Int)
def ofK (zs vs : List Int) (a : Nat) : List Int := ((List.range a).filter fun i : Nat => vs.any fun v => decide (shardP zs v = (i : Int))).map fun i : Nat => (i : Int)
theorem ofL_eq (zs vs : List Int) : ofL zs vs = ofK zs vs zs.length := rfl
theorem ofK_succ (zs vs : List Int) (a : Nat) : ofK zs vs (a + 1) = ofK zs vs a ++ (if (vs.any fun v => decide (shardP zs v = (a : Int))) = true then [(a : Int)] else []) := by
  unfold ofK
  rw [List.range_succ, List.filter_append, List.map_append]
  congr 1
  by_cases h : (vs.any fun v => decide (shardP zs v = (a : Int))) = true
  · rw [if_pos h]; simp only [List.filter_cons, List.filter_nil, h, if_true]; rfl
  · rw [if_neg h]; simp only [List.filter_cons, List.filter_nil, h]; rfl
def newOk (n : Int) (cuts : List Int) : Bool := rises 0 cuts && decide (lastI 0 cuts = n) && decide (cuts.length ≤ 1000)
def newE (n : Int) (cuts : List Int) : Int := if n < 0 ∨ 16777216 < n then 41 else if newOk n cuts = true then 0 else 100
def many (n s : Int) : Bool := if n = 0 then decide (s = 0) else decide (1 ≤ s) && decide (s ≤ n) && decide (s ≤ 1000)
def evenE (n s : Int) : Int := if n < 0 ∨ 16777216 < n then 41 else if many n s = true then 0 else 100
def evenL (n s : Int) (k : Nat) : List Int := (List.range k).map fun i : Nat => ((i : Int) + 1) * n / s
theorem evenL_succ (n s : Int) (k : Nat) : evenL n s (k + 1) = evenL n s k ++ [((k : Int) + 1) * n / s] := by unfold evenL; rw [List.range_succ, List.map_append]; rfl
theorem evenL_length (n s : Int) (k : Nat) : (evenL n s k).length = k := by simp [evenL]
/-- The widths of Even's shards. -/
theorem even_step (n s : Int) (i : Nat) (hs : 0 < s) (hn : 0 ≤ n) : n / s ≤ ((i : Int) + 1) * n / s - (i : Int) * n / s ∧ ((i : Int) + 1) * n / s - (i : Int) * n / s ≤ n / s + 1 := by
  have e : ((i : Int) + 1) * n = (i : Int) * n + n := by rw [Int.add_mul, Int.one_mul]
  rw [e]
  generalize (i : Int) * n = x
  have a1 := Int.emod_add_mul_ediv x s
  have a2 := Int.emod_add_mul_ediv n s
  have a3 := Int.emod_add_mul_ediv (x + n) s
  have b1 := Int.emod_nonneg x (show s ≠ 0 by omega)
  have b2 := Int.emod_nonneg n (show s ≠ 0 by omega)
  have b3 := Int.emod_nonneg (x + n) (show s ≠ 0 by omega)
  have c1 := Int.emod_lt_of_pos x hs
  have c2 := Int.emod_lt_of_pos n hs
  have c3 := Int.emod_lt_of_pos (x + n) hs
  generalize x / s = p at *
  generalize n / s = q at *
  generalize (x + n) / s = r at *
  generalize x % s = p' at *
  generalize n % s = q' at *
  generalize (x + n) % s = r' at *
  have k1 : s * r < s * (p + q + 2) := by rw [Int.mul_add, Int.mul_add]; omega
  have k2 : s * (p + q) < s * (r + 1) := by rw [Int.mul_add, Int.mul_add]; omega
  have l1 := Int.lt_of_mul_lt_mul_left k1 (by omega)
  have l2 := Int.lt_of_mul_lt_mul_left k2 (by omega)
  omega
theorem evenL_last (n s : Int) (hs : 0 < s) (hn : 0 ≤ n) : ∀ k : Nat, lastI 0 (evenL n s k) = (k : Int) * n / s
  | 0 => by simp [evenL, lastI]
  | k + 1 => by rw [evenL_succ, lastI_append]; norm_cast
theorem evenL_rises (n s : Int) (hs : 0 < s) (hn : s ≤ n) : ∀ k : Nat, rises 0 (evenL n s k) = true
  | 0 => by simp [evenL, rises]
  | k + 1 => by
    rw [evenL_succ, rises_append]
    refine ⟨evenL_rises n s hs hn k, ?_⟩
    rw [evenL_last n s hs (by omega)]
    have := (even_step n s k hs (by omega)).1
    have hq : 1 ≤ n / s := Int.le_ediv_of_mul_le hs (by omega)
    omega
/-! weights -/
def wt (ds : List Int) (c : Nat) : Int := (ds.take c).foldl (fun a d => a + (d + 1)) 0
theorem wt_zero (ds : List Int) : wt ds 0 = 0 := by simp [wt]
theorem wt_succ (ds : List Int) (c : Nat) (d : Int) (h : ds[c]? = some d) : wt ds (c + 1) = wt ds c + (d + 1) := by
  unfold wt; rw [List.take_add_one, h, Option.toList_some, List.foldl_append]; rfl
def degOk (ds : List Int) : Bool := ds.all fun d => decide (0 ≤ d) && decide (d ≤ 16777216)
def balE (ds : List Int) (s : Int) : Int := if 16777216 < (ds.length : Int) then 41 else if degOk ds = true then (if many ds.length s = true then 0 else 100) else 101
/-- Going on while there is room and weight is lacking. -/
def adv (W : Nat → Int) (lim s tgt : Int) : Nat → Nat → Nat
  | 0, c => c
  | f + 1, c => if (c : Int) < lim ∧ W c * s < tgt then adv W lim s tgt f (c + 1) else c
def nx (ds : List Int) (s : Nat) (i c : Nat) : Nat := adv (wt ds) ((ds.length : Int) - ((s : Int) - 1 - i)) s (((i : Int) + 1) * wt ds ds.length) ds.length (c + 1)
def balC (ds : List Int) (s : Nat) : Nat → Nat
  | 0 => 0
  | i + 1 => nx ds s i (balC ds s i)
def balL (ds : List Int) (s k : Nat) : List Int := (List.range k).map fun i => (balC ds s (i + 1) : Int)
theorem balL_succ (ds : List Int) (s k : Nat) : balL ds s (k + 1) = balL ds s k ++ [(balC ds s (k + 1) : Int)] := by unfold balL; rw [List.range_succ, List.map_append]; rfl
theorem balL_length (ds : List Int) (s k : Nat) : (balL ds s k).length = k := by simp [balL]
theorem adv_ge (W : Nat → Int) (lim s tgt : Int) : ∀ (f c : Nat), c ≤ adv W lim s tgt f c
  | 0, c => Nat.le_refl _
  | f + 1, c => by
    rw [adv]; split
    · have := adv_ge W lim s tgt f (c + 1); omega
    · exact Nat.le_refl _
theorem adv_le (W : Nat → Int) (lim s tgt : Int) : ∀ (f c : Nat), (adv W lim s tgt f c : Int) ≤ max (c : Int) lim
  | 0, c => by rw [adv]; omega
  | f + 1, c => by
    rw [adv]; split
    · have := adv_le W lim s tgt f (c + 1); omega
    · omega
/-- Where it stands there is no room or no lack. -/
theorem adv_end (W : Nat → Int) (lim s tgt : Int) : ∀ (f c : Nat), lim ≤ (c : Int) + f → ¬ ((adv W lim s tgt f c : Int) < lim ∧ W (adv W lim s tgt f c) * s < tgt)
  | 0, c, h => by rw [adv]; omega
  | f + 1, c, h => by
    rw [adv]; split
    · exact adv_end W lim s tgt f (c + 1) (by omega)
    · assumption
/-- Behind its beginning there was room, and lack. -/
theorem adv_mid (W : Nat → Int) (lim s tgt : Int) : ∀ (f c : Nat), c < adv W lim s tgt f c → (adv W lim s tgt f c - 1 : Int) < lim ∧ W (adv W lim s tgt f c - 1) * s < tgt
  | 0, c, h => by rw [adv] at h; omega
  | f + 1, c, h => by
    rw [adv] at h ⊢
    split at h
    · rename_i hc
      rw [if_pos hc]
      by_cases hlt : c + 1 < adv W lim s tgt f (c + 1)
      · exact adv_mid W lim s tgt f (c + 1) hlt
      · have := adv_ge W lim s tgt f (c + 1)
        have e : adv W lim s tgt f (c + 1) = c + 1 := by omega
        rw [e]
        exact ⟨by omega, hc.2⟩
    · omega
end La
namespace La
theorem degOk_get {ds : List Int} (h : degOk ds = true) {c : Nat} {d : Int} (hc : ds[c]? = some d) : 0 ≤ d ∧ d ≤ 16777216 := by
  have := List.all_eq_true.1 h d (List.mem_of_getElem? hc)
  simpa using this
theorem wt_bound (ds : List Int) (h : degOk ds = true) : ∀ c, c ≤ ds.length → (c : Int) ≤ wt ds c ∧ wt ds c ≤ c * 16777217
  | 0, _ => by rw [wt_zero]; omega
  | c + 1, hc => by
    obtain ⟨d, hd⟩ : ∃ d, ds[c]? = some d := ⟨ds[c], List.getElem?_eq_getElem (by omega)⟩
    have h1 := degOk_get h hd
    have := wt_bound ds h c (by omega)
    rw [wt_succ ds c d hd]
    omega
theorem wt_lt (ds : List Int) (h : degOk ds = true) : ∀ k c, c + k ≤ ds.length → wt ds c + k ≤ wt ds (c + k)
  | 0, c, _ => by simp
  | k + 1, c, hc => by
    obtain ⟨d, hd⟩ : ∃ d, ds[c + k]? = some d := ⟨ds[c + k], List.getElem?_eq_getElem (by omega)⟩
    have h1 := degOk_get h hd
    have := wt_lt ds h k c (by omega)
    rw [← Nat.add_assoc, wt_succ ds (c + k) d hd]
    omega
theorem nx_spec (ds : List Int) (s i c : Nat) (hi : i < s) (hc : (c : Int) + ((s : Int) - i) ≤ ds.length) : c + 1 ≤ nx ds s i c ∧ (nx ds s i c : Int) ≤ (ds.length : Int) - ((s : Int) - 1 - i) ∧
    (c + 1 < nx ds s i c → wt ds (nx ds s i c - 1) * s < ((i : Int) + 1) * wt ds ds.length) ∧ ((nx ds s i c : Int) < (ds.length : Int) - ((s : Int) - 1 - i) → ((i : Int) + 1) * wt ds ds.length ≤ wt ds (nx ds s i c) * s) := by
  unfold nx
  have a1 := adv_ge (wt ds) ((ds.length : Int) - ((s : Int) - 1 - i)) s (((i : Int) + 1) * wt ds ds.length) ds.length (c + 1)
  have a2 := adv_le (wt ds) ((ds.length : Int) - ((s : Int) - 1 - i)) s (((i : Int) + 1) * wt ds ds.length) ds.length (c + 1)
  have a3 := adv_mid (wt ds) ((ds.length : Int) - ((s : Int) - 1 - i)) s (((i : Int) + 1) * wt ds ds.length) ds.length (c + 1)
  have a4 := adv_end (wt ds) ((ds.length : Int) - ((s : Int) - 1 - i)) s (((i : Int) + 1) * wt ds ds.length) ds.length (c + 1) (by omega)
  generalize adv (wt ds) ((ds.length : Int) - ((s : Int) - 1 - i)) s (((i : Int) + 1) * wt ds ds.length) ds.length (c + 1) = x at *
  refine ⟨a1, by omega, fun h => (a3 h).2, fun h => ?_⟩
  have := fun h2 => a4 ⟨h, h2⟩
  omega
theorem balC_inv (ds : List Int) (s : Nat) (hs : s ≤ ds.length) : ∀ i, i ≤ s → (balC ds s i : Int) + ((s : Int) - i) ≤ ds.length
  | 0, _ => by rw [balC]; omega
  | i + 1, hi => by
    have := (nx_spec ds s i (balC ds s i) (by omega) (balC_inv ds s hs i (by omega))).2.1
    rw [balC]; omega
theorem balC_step (ds : List Int) (s i : Nat) (hs : s ≤ ds.length) (hi : i < s) : balC ds s i + 1 ≤ balC ds s (i + 1) ∧ (balC ds s (i + 1) : Int) ≤ (ds.length : Int) - ((s : Int) - 1 - i) ∧
    (balC ds s i + 1 < balC ds s (i + 1) → wt ds (balC ds s (i + 1) - 1) * s < ((i : Int) + 1) * wt ds ds.length) ∧ ((balC ds s (i + 1) : Int) < (ds.length : Int) - ((s : Int) - 1 - i) → ((i : Int) + 1) * wt ds ds.length ≤ wt ds (balC ds s (i + 1)) * s) :=
  nx_spec ds s i (balC ds s i) hi (balC_inv ds s hs i (by omega))
theorem balC_all (ds : List Int) (s : Nat) (h : degOk ds = true) (h1 : 1 ≤ s) (hs : s ≤ ds.length) : balC ds s s = ds.length := by
  obtain ⟨k, rfl⟩ : ∃ k, s = k + 1 := ⟨s - 1, by omega⟩
  have a := balC_step ds (k + 1) k hs (by omega)
  have b := balC_inv ds (k + 1) hs (k + 1) (Nat.le_refl _)
  obtain ⟨_, a2, _, a4⟩ := a
  generalize balC ds (k + 1) (k + 1) = x at *
  rcases Nat.lt_or_ge x ds.length with hlt | hge
  · exfalso
    have h5 := a4 (by omega)
    have h6 := wt_lt ds h (ds.length - x) x (by omega)
    rw [show x + (ds.length - x) = ds.length by omega] at h6
    have h7 : wt ds x < wt ds ds.length := by omega
    have h8 : wt ds x * ((k + 1 : Nat) : Int) < wt ds ds.length * ((k + 1 : Nat) : Int) := Int.mul_lt_mul_of_pos_right h7 (by omega)
    have h9 : ((k : Int) + 1) * wt ds ds.length = wt ds ds.length * ((k + 1 : Nat) : Int) := by rw [Int.mul_comm]; norm_cast
    omega
  · omega
theorem balL_last (ds : List Int) (s : Nat) : ∀ k, lastI 0 (balL ds s k) = (balC ds s k : Int)
  | 0 => rfl
  | k + 1 => by rw [balL_succ, lastI_append]
theorem balL_rises (ds : List Int) (s : Nat) (hs : s ≤ ds.length) : ∀ k, k ≤ s → rises 0 (balL ds s k) = true
  | 0, _ => rfl
  | k + 1, hk => by
    rw [balL_succ, rises_append]
    refine ⟨balL_rises ds s hs k (by omega), ?_⟩
    rw [balL_last]
    have := (balC_step ds s k hs (by omega)).1
    omega
/-- What a layout is. -/
def Good (n : Int) (zs : List Int) : Prop := rises 0 zs = true ∧ lastI 0 zs = n ∧ zs.length ≤ 1000 ∧ 0 ≤ n ∧ n ≤ 16777216
theorem good_new {n : Int} {zs : List Int} (h : newE n zs = 0) : Good n zs := by
  unfold newE at h
  split at h
  · cases h
  · split at h
    · rename_i h1 h2
      simp only [newOk, Bool.and_eq_true, decide_eq_true_eq] at h2
      exact ⟨h2.1.1, h2.1.2, h2.2, by omega, by omega⟩
    · cases h
theorem many_spec {n s : Int} (h : many n s = true) : (n = 0 ∧ s = 0) ∨ (1 ≤ s ∧ s ≤ n ∧ s ≤ 1000) := by
  unfold many at h
  split at h
  · rename_i h0; exact Or.inl ⟨h0, by simpa using h⟩
  · simp only [Bool.and_eq_true, decide_eq_true_eq] at h; exact Or.inr ⟨h.1.1, h.1.2, h.2⟩
theorem good_even {n s : Int} (h : evenE n s = 0) : Good n (evenL n s s.toNat) := by
  unfold evenE at h
  split at h
  · cases h
  · split at h
    · rename_i h0 hm
      rcases many_spec hm with ⟨rfl, rfl⟩ | ⟨h1, h2, h3⟩
      · exact ⟨rfl, rfl, by simp [evenL], by omega, by omega⟩
      · refine ⟨evenL_rises n s (by omega) h2 _, ?_, by rw [evenL_length]; omega, by omega, by omega⟩
        rw [evenL_last n s (by omega) (by omega), Int.toNat_of_nonneg (by omega), Int.mul_ediv_cancel_left _ (by omega)]
    · cases h
theorem good_bal {ds : List Int} {s : Int} (h : balE ds s = 0) : Good ds.length (balL ds s.toNat s.toNat) := by
  unfold balE at h
  split at h
  · cases h
  · split at h
    · split at h
      · rename_i h0 hd hm
        rcases many_spec hm with ⟨h1, rfl⟩ | ⟨h1, h2, h3⟩
        · exact ⟨rfl, by simp [balL, lastI]; omega, by simp [balL], by omega, by omega⟩
        · refine ⟨balL_rises ds s.toNat (by omega) _ (Nat.le_refl _), ?_, by rw [balL_length]; omega, by omega, by omega⟩
          rw [balL_last, balC_all ds s.toNat hd (by omega) (by omega)]
      · cases h
    · cases h
end La
/-- A layout: its cuts in memory of its own. -/
def LayIs (w : World) (base g : Nat) (A : Option Addr) (n cap : Nat) (zs : List Int) : Prop :=
  w.heap[g]? = some (.cells #[.slice A n cap] 162 (0, 0)) ∧ w.ownsRow base 3 1 (.slice A n cap) n (zs.map VI) ∧ n = zs.length ∧ base ≤ g
theorem LayIs.below {w w' : World} {base g n cap : Nat} {A : Option Addr} {zs : List Int} (h : LayIs w base g A n cap zs) (hb : Below w.heap.size w w') : LayIs w' base g A n cap zs :=
  ⟨(hb.block g (lt_heap h.1)).trans h.1, own_below h.2.1 hb (Nat.le_refl _), h.2.2⟩
theorem own_cap {w : World} {base : Nat} {t : TypeId} {A : Option Addr} {n cap : Nat} {xs : List Value} (h : w.ownsRow base t 1 (.slice A n cap) n xs) : n ≤ cap ∧ cap ≤ maxLen := by
  obtain ⟨_, _, e, h1, h2, _⟩ := own_form h
  injection e with _ _ e; subst e; exact ⟨h1, h2⟩
theorem LayIs.cell {w : World} {base g n cap : Nat} {A : Option Addr} {zs : List Int} (h : LayIs w base g A n cap zs) : w.cell? ⟨g, 0, none⟩ = some (.slice A n cap) := by rw [cell_heap h.1]; rfl
theorem getD_some {zs : List Int} {i : Nat} (h : i < zs.length) : zs[i]? = some (zs.getD i 0) := by simp [List.getD, List.getElem?_eq_getElem h]
set_option maxHeartbeats 1000000 in
theorem N_calls (g : Nat) (A : Option Addr) (n cap base : Nat) (zs : List Int) (w : World) (h : LayIs w base g A n cap zs) :
    Calls Tryz.prog 89 #[.pointer (some ⟨g, 0, none⟩)] w fun e w' => e = .returned (.int .i64 (La.lastI 0 zs)) ∧ ∃ k, w' = w.drewN k := by
  have c0 := h.cell
  have Hn := Lib.hid h.2.2.1
  obtain ⟨p1, p2⟩ := own_cap h.2.1
  unfold maxLen at p2
  by_cases h0 : n = 0
  · subst h0
    have hz : zs = [] := List.eq_nil_of_length_eq_zero Hn.out.symm
    subst hz
    clear h
    go_enter Tryz.func89, Tryz.ntmps89
    go_wp2_with fail
    go_ret
    exact ⟨rfl, 0, rfl⟩
  · have hne : zs ≠ [] := by intro e; subst e; exact h0 Hn.out
    have Hl := Lib.hid (La.lastI_get zs 0 hne)
    obtain ⟨b, off, rfl, _, hc⟩ := rd_get (own_rd h.2.1) (getD_some (zs := zs) (i := zs.length - 1) (by rw [← Hn.out]; omega))
    rw [← Hl.out, ← Hn.out] at hc
    have e0 : ((n : Int) == 0) = false := by rw [beq_eq_false_iff_ne]; omega
    have e1 : (n : Int) - 1 = ((n - 1 : Nat) : Int) := by omega
    have e2 : wrap64 ((n : Int) - 1) = ((n - 1 : Nat) : Int) := by rw [IntWalk.wrap64_in _ (by omega)]; omega
    have e3 : ((n - 1 : Nat) : Int) < (n : Int) := by omega
    generalize La.lastI 0 zs = z at *
    clear h hne h0
    go_enter Tryz.func89, Tryz.ntmps89
    go_wp2_with fail
    go_quiet (fail)
    go_wp2_with fail
    go_ret
    exact ⟨rfl, nq, rfl⟩
set_option maxHeartbeats 1000000 in
theorem Shards_calls (g : Nat) (A : Option Addr) (n cap base : Nat) (zs : List Int) (w : World) (h : LayIs w base g A n cap zs) :
    Calls Tryz.prog 90 #[.pointer (some ⟨g, 0, none⟩)] w fun e w' => e = .returned (.int .i64 (n : Int)) ∧ w = w' := by
  have c0 := h.cell
  clear h
  go_enter Tryz.func90, Tryz.ntmps90
  go_wp2_with fail
  go_ret
  exact ⟨rfl, rfl⟩
set_option maxHeartbeats 2000000 in
theorem Range_calls (g : Nat) (A : Option Addr) (n cap base : Nat) (zs : List Int) (i : Int) (w : World) (h : LayIs w base g A n cap zs) (hi : i ≤ 9223372036854775807) :
    Calls Tryz.prog 88 #[.pointer (some ⟨g, 0, none⟩), .int .i64 i] w fun e w' => e = .returned (.tuple #[.int .i64 (La.rng zs i).1, .int .i64 (La.rng zs i).2]) ∧ ∃ k, w' = w.drewN k := by
  have c0 := h.cell
  have Hn := Lib.hid h.2.2.1
  obtain ⟨p1, p2⟩ := own_cap h.2.1
  unfold maxLen at p2
  by_cases hneg : i < 0
  · have He := Lib.hid (La.rng_out zs i (Or.inl hneg))
    clear h
    go_enter Tryz.func88, Tryz.ntmps88
    go_wp2_with fail
    go_ret2
    rw [He.out]
    exact ⟨rfl, 0, rfl⟩
  · by_cases hbig : (n : Int) ≤ i
    · have He := Lib.hid (La.rng_out zs i (Or.inr (by rw [← Hn.out]; exact hbig)))
      clear h
      go_enter Tryz.func88, Tryz.ntmps88
      go_wp2_with fail
      go_ret2
      rw [He.out]
      exact ⟨rfl, 0, rfl⟩
    · obtain ⟨k, rfl⟩ : ∃ k : Nat, i = (k : Int) := ⟨i.toNat, by omega⟩
      have He := Lib.hid (La.rng_in zs k (by rw [← Hn.out]; omega))
      have hkn : (k : Int) < (n : Int) := by omega
      obtain ⟨b, off, rfl, _, hc⟩ := rd_get (own_rd h.2.1) (getD_some (zs := zs) (i := k) (by rw [← Hn.out]; omega))
      by_cases hk0 : k = 0
      · subst hk0
        clear hneg hbig h
        have hn0 : (0 : Int) < (n : Int) := by omega
        have hcap : (0 : Int) < (cap : Int) := by omega
        have hc : w.cell? ⟨b, off, none⟩ = some (.int .i64 (zs.getD 0 0)) := by simpa using hc
        generalize zs.getD 0 0 = z at *
        go_enter Tryz.func88, Tryz.ntmps88
        go_wp2_with fail
        go_quiet (fail)
        go_wp2_with fail
        go_ret2
        rw [He.out, La.lo_zero]
        exact ⟨rfl, nq, rfl⟩
      · obtain ⟨j, hj⟩ : ∃ j, j = k - 1 := ⟨_, rfl⟩
        obtain ⟨b2, off2, e, _, hc2⟩ := rd_get (own_rd h.2.1) (getD_some (zs := zs) (i := j) (by rw [← Hn.out]; omega))
        injection e with e; injection e with e1 e2; subst e1; subst e2
        have x0 : ((k : Int) == 0) = false := by rw [beq_eq_false_iff_ne]; omega
        have x1 : (k : Int) - 1 = (j : Int) := by omega
        have x2 : wrap64 ((k : Int) - 1) = (j : Int) := by rw [IntWalk.wrap64_in _ (by omega)]; omega
        have x3 : (j : Int) < (n : Int) := by omega
        have x4 : ¬ (n : Int) ≤ (k : Int) := by omega
        have hlo : La.lo zs k = zs.getD j 0 := by rw [show k = j + 1 by omega]; exact La.lo_succ zs j
        rw [hlo] at He
        generalize zs.getD j 0 = z at *
        generalize zs.getD k 0 = z2 at *
        clear h hj hlo
        go_enter Tryz.func88, Tryz.ntmps88
        go_wp2_with fail
        go_quiet (fail)
        go_wp2_with fail
        go_ret2
        rw [He.out]
        exact ⟨rfl, nq, rfl⟩
theorem quiet_N (g : Nat) (A : Option Addr) (n cap base m : Nat) (zs : List Int) (w : World) (h : LayIs w base g A n cap zs) :
    Calls Tryz.prog 89 #[.pointer (some ⟨g, 0, none⟩)] (w.drewN m) fun e w' => e = .returned (.int .i64 (La.lastI 0 zs)) ∧ ∃ k, w' = w.drewN k :=
  (N_calls g A n cap base zs (w.drewN m) (h.below (below_drewN (Below.refl _ _) m))).mono fun _ _ ⟨he, k, hw⟩ => ⟨he, m + k, by rw [hw, World.drewN_drewN]⟩
set_option maxHeartbeats 1000000 in
theorem less_calls (bv bl g i n cap base : Nat) (A : Option Addr) (zs : List Int) (v : Int) (w : World) (h : LayIs w base g A n cap zs) (hv : w.cell? ⟨bv, 0, none⟩ = some (.int .i64 v)) (hl : w.cell? ⟨bl, 0, none⟩ = some (.pointer (some ⟨g, 0, none⟩))) (hi : i < n) :
    Calls Tryz.prog 179 (#[.int .i64 (i : Int)] ++ #[.pointer (some ⟨bv, 0, none⟩), .pointer (some ⟨bl, 0, none⟩)]) w fun e w' => e = .returned (.bool (decide (v < zs.getD i 0))) ∧ ∃ k, w' = w.drewN k := by
  have c0 := h.cell
  obtain ⟨p1, p2⟩ := own_cap h.2.1
  unfold maxLen at p2
  obtain ⟨b, off, rfl, _, hc⟩ := rd_get (own_rd h.2.1) (getD_some (zs := zs) (i := i) (by rw [← h.2.2.1]; exact hi))
  have hin : (i : Int) < (n : Int) := by omega
  generalize zs.getD i 0 = z at *
  clear h
  go_enter Tryz.func179, Tryz.ntmps179
  go_wp2_with fail
  go_quiet (fail)
  go_wp2_with fail
  go_ret
  exact ⟨rfl, nq, rfl⟩
set_option maxHeartbeats 2000000 in
theorem search_calls (n : Nat) (p : Nat → Bool) (cb : Array Value) (w : World) (hn : n < 4611686018427387904)
    (hf : ∀ (m i : Nat), i < n → Calls Tryz.prog 179 (#[.int .i64 (i : Int)] ++ cb) (w.drewN m) fun e w' => e = .returned (.bool (p i)) ∧ ∃ k, w' = (w.drewN m).drewN k)
    (hmono : ∀ a b, a ≤ b → b < n → p a = true → p b = true) :
    Calls Tryz.prog 178 #[.int .i64 (n : Int), .func (.func 179) #[] cb] w fun e w' => ∃ r : Nat, e = .returned (.int .i64 (r : Int)) ∧ r ≤ n ∧ (∀ t, t < r → p t = false) ∧ (∀ t, r ≤ t → t < n → p t = true) ∧ ∃ k, w' = w.drewN k := by
  have HF := Lib.hid hf; have HM := Lib.hid hmono
  clear hf hmono
  go_enter Tryz.func178, Tryz.ntmps178
  go_wp2_with fail
  go_loopw [5, 6] (fun s5 s6 wr => ∃ (lo hi : Nat), s5 = .int .i64 (lo : Int) ∧ s6 = .int .i64 (hi : Int) ∧ lo ≤ hi ∧ hi ≤ n ∧ (∃ q, wr = w.drewN q) ∧ (∀ t, t < lo → p t = false) ∧ (∀ t, hi ≤ t → t < n → p t = true)) (fun s5 s6 _ => (intOf s6).toNat - (intOf s5).toNat)
  case atStart => exact ⟨0, n, rfl, rfl, by omega, by omega, ⟨0, rfl⟩, fun t h => by omega, fun t h1 h2 => by omega⟩
  case round =>
    obtain ⟨lo, hi, rfl, rfl, hlh, hhn, ⟨q, rfl⟩, h1, h2⟩ := hrel
    have H1 := Lib.hid h1; have H2 := Lib.hid h2
    clear h1 h2
    by_cases hlt : lo < hi
    · have l1 : (lo : Int) < (hi : Int) := by omega
      have hc := HF.out q ((lo + hi) / 2) (by omega)
      rw [show (((lo + hi) / 2 : Nat) : Int) = ((lo : Int) + (hi : Int)) / 2 by omega] at hc
      cases hp : p ((lo + hi) / 2) <;> rw [hp] at hc
      · have HP := Lib.hid hp; have HC := Lib.hid hc
        clear hp hc
        go_wp2_with fail
        refine HC.out.mono ?_
        rintro e w' ⟨rfl, k, rfl⟩
        go_wp2_with fail
        refine ⟨⟨(lo + hi) / 2 + 1, hi, by congr 1, rfl, by omega, hhn, ⟨q + k, rfl⟩, fun t ht => ?_, H2.out⟩, by simp [intOf]; omega⟩
        cases h : p t with
        | false => rfl
        | true => have := HM.out t ((lo + hi) / 2) (by omega) (by omega) h; rw [HP.out] at this; cases this
      · have HP := Lib.hid hp; have HC := Lib.hid hc
        clear hp hc
        go_wp2_with fail
        refine HC.out.mono ?_
        rintro e w' ⟨rfl, k, rfl⟩
        go_wp2_with fail
        refine ⟨⟨lo, (lo + hi) / 2, rfl, by congr 1, by omega, by omega, ⟨q + k, rfl⟩, H1.out, fun t ht htn => HM.out ((lo + hi) / 2) t ht htn HP.out⟩, by simp [intOf]; omega⟩
    · have l1 : ¬ (lo : Int) < (hi : Int) := by omega
      obtain rfl : hi = lo := by omega
      go_wp2_with fail
      go_ret
      exact ⟨hi, rfl, hhn, H1.out, H2.out, q, rfl⟩
theorem shard_of (zs : List Int) (v : Int) (r : Nat) (h : La.rises 0 zs = true) (h0 : ¬ v < 0) (hv : ¬ La.lastI 0 zs ≤ v) (hr : r ≤ zs.length) (h1 : ∀ t, t < r → decide (v < zs.getD t 0) = false) (h2 : ∀ t, r ≤ t → t < zs.length → decide (v < zs.getD t 0) = true) : La.shardP zs v = (r : Int) := by
  have hlt : r < zs.length := by
    rcases Nat.lt_or_ge r zs.length with h3 | h3
    · exact h3
    · exfalso
      have hne : zs ≠ [] := by rintro rfl; simp [La.lastI] at hv; omega
      have hp : 0 < zs.length := List.length_pos_iff.2 hne
      have := h1 (zs.length - 1) (by omega)
      rw [← La.lastI_get zs 0 hne] at this
      simp at this; omega
  refine (La.shard_iff zs v r h hlt).2 ⟨?_, by simpa using h2 r (Nat.le_refl _) hlt⟩
  cases r with
  | zero => rw [La.lo_zero]; omega
  | succ r => rw [La.lo_succ]; simpa using h1 r (by omega)
set_option maxHeartbeats 2000000 in
theorem Shard_calls (g : Nat) (A : Option Addr) (n cap base : Nat) (zs : List Int) (v : Int) (w : World) (h : LayIs w base g A n cap zs) (hg : La.rises 0 zs = true) (hm : n ≤ 1099511627776) :
    Calls Tryz.prog 91 #[.pointer (some ⟨g, 0, none⟩), .int .i64 v] w fun e w' => e = .returned (.int .i64 (La.shardP zs v)) ∧ Below w.heap.size w w' := by
  have H := Lib.hid h
  have hgl := lt_heap h.1
  clear h
  go_enter Tryz.func91, Tryz.ntmps91
  go_upto_if 12 with fail
  obtain ⟨w2, hw2⟩ : ∃ x, x = (w.alloc (Obj.cells #[.pointer (some ⟨g, 0, none⟩)] 101)).alloc (Obj.cells #[.int .i64 v] 3) := ⟨_, rfl⟩
  rw [← hw2]
  have hb2 : Below w.heap.size w w2 := by rw [hw2]; exact ((Below.refl _ _).alloc (Nat.le_refl _) _).alloc (by simp) _
  have hs2 := hb2.size
  have cl : w2.cell? ⟨w.heap.size, 0, none⟩ = some (.pointer (some ⟨g, 0, none⟩)) := by rw [hw2]; simp [go_sem]
  have cv : w2.cell? ⟨w.heap.size + 1, 0, none⟩ = some (.int .i64 v) := by rw [hw2]; simp [go_sem]
  have H2 := Lib.hid (H.out.below hb2)
  have Hb2 := Lib.hid hb2
  have Hg := Lib.hid hg
  clear hw2 hb2 hg
  by_cases h0 : v < 0
  · have He := Lib.hid ((La.shard_neg zs v).2 (Or.inl h0))
    go_quiet (fail)
    go_wp2_with fail
    go_ret
    exact ⟨by rw [He.out]; rfl, below_drewN Hb2.out nq⟩
  · by_cases hl : La.lastI 0 zs ≤ v
    · have He := Lib.hid ((La.shard_neg zs v).2 (Or.inr hl))
      go_quiet ((go_at_call 89; exact quiet_N g A n cap base _ zs w2 H2.out))
      go_wp2_with fail
      go_ret
      exact ⟨by rw [He.out]; rfl, below_drewN Hb2.out nq⟩
    · have Hsh := Lib.hid (fun r => shard_of zs v r Hg.out h0 hl)
      have Hn := Lib.hid H2.out.2.2.1
      go_quiet ((go_at_call 89; exact quiet_N g A n cap base _ zs w2 H2.out))
      have c0 : (w2.drewN nq).cell? ⟨g, 0, none⟩ = some (.slice A n cap) := H2.out.cell
      clear hl
      go_wp2_with fail
      refine (search_calls n (fun i => decide (v < zs.getD i 0)) #[.pointer (some ⟨w.heap.size + 1, 0, none⟩), .pointer (some ⟨w.heap.size, 0, none⟩)] (w2.drewN nq) (by omega) ?_ ?_).mono ?_
      · intro m i hi
        exact less_calls _ _ g i n cap base A zs v ((w2.drewN nq).drewN m) (H2.out.below (below_drewN (below_drewN (Below.refl _ _) nq) m)) cv cl hi
      · intro a b hab hb ha
        rcases Nat.lt_or_ge a b with h1 | h1
        · have hlt : ∀ d a, a + d < zs.length → zs.getD a 0 ≤ zs.getD (a + d) 0 := by
            intro d
            induction d with
            | zero => intro a _; exact Int.le_refl _
            | succ d ih =>
              intro a had
              have h2 := ih a (by omega)
              have h3 := La.rises_step zs 0 (a + d) Hg.out (by omega)
              rw [← Nat.add_assoc]; omega
          have := hlt (b - a) a (by rw [← Hn.out]; omega)
          rw [show a + (b - a) = b by omega] at this
          simp only [decide_eq_true_eq] at ha ⊢; omega
        · rw [show b = a by omega]; exact ha
      · rintro e w3 ⟨r, rfl, hr, h1, h2, k, rfl⟩
        have He := Lib.hid (Hsh.out r (by rw [← Hn.out]; exact hr) h1 (by rw [← Hn.out]; exact h2))
        clear h1 h2 c0
        go_wp2_with fail
        go_ret
        exact ⟨by rw [He.out]; rfl, by have := below_drewN (below_drewN Hb2.out nq) k; rw [World.drewN_drewN] at this; exact this⟩
set_option maxHeartbeats 1000000 in
theorem Cuts_calls (g : Nat) (A : Option Addr) (n cap base : Nat) (zs : List Int) (w : World) (h : LayIs w base g A n cap zs) (hm : n ≤ 1099511627776) :
    Calls Tryz.prog 50 #[.pointer (some ⟨g, 0, none⟩)] w fun e w' => ∃ A' cap', e = .returned (.slice A' n cap') ∧ w'.ownsRow w.heap.size 3 1 (.slice A' n cap') n (zs.map VI) ∧ Below w.heap.size w w' := by
  have H := Lib.hid h
  have c0 := h.cell
  have hgl := lt_heap h.1
  obtain ⟨i0, hi, hz0, hz1, hz2⟩ := info_parts infoInt
  have Hi := Lib.hid hi
  clear h hi
  go_enter Tryz.func50, Tryz.ntmps50
  have hmk := make0_int n (by omega)
  have Hown := Lib.hid (World.ownsRow_made (base := w.heap.size) (e := 3) (size := 1) w (zerosI n) n (Nat.le_refl _) (by unfold maxLen; omega) (by rw [zerosI_size]; omega))
  have Hn := Lib.hid H.out.2.2.1
  have Hnil := Lib.hid (own_nil H.out.2.1)
  have Hr := Lib.hid (own_rd H.out.2.1)
  go_wp2_with fail
  have hst : (w.drew.cell? ⟨g, 0, none⟩ = some (.slice A n cap) ∧ True) ∧ Below w.heap.size w w.drew := ⟨⟨c0, trivial⟩, below_drewN (Below.refl _ _) 1⟩
  go_region_held3 (fun w' => (w'.cell? ⟨g, 0, none⟩ = some (.slice A n cap) ∧ True) ∧ Below w.heap.size w w')
    ((rename (_ ∧ _) ∧ Below _ _ _ => hS; first
      | exact hS2
      | exact hS
      | exact ⟨⟨c0, trivial⟩, below_drewN (Below.refl _ _) 1⟩
      | exact ⟨⟨(hS.2.alloc hS.2.size _).cell (show g < w.heap.size from hgl) |>.trans c0, trivial⟩, hS.2.alloc hS.2.size _⟩))
    ((rename (_ ∧ _) ∧ Below _ _ _ => hS; refine step_append_rd rfl _ _ 84 rfl w.heap.size 3 i0 _ 8 descInts Hi.out hz0 hz1 hz2 rfl _ 0 [] rfl Hown.out w.heap.size A n cap (zs.map VI) rfl (by rw [List.length_map]; exact Hn.out) Hnil.out (Hr.out.below hS.2 (Nat.le_refl _)) (vi_one zs) (by unfold maxLen; omega) (by omega) (by simp) ?_; intro v2 w2 hown2 hg2; have hb2 := hS.2.grown hg2.out (by simp) (fun k hk => by have hk : some w.heap.size = some k := hk; injection hk with hk; omega); have hS2 : (w2.cell? ⟨g, 0, none⟩ = some (.slice A n cap) ∧ True) ∧ Below w.heap.size w w2 := ⟨⟨(hb2.cell (show g < w.heap.size from hgl)).trans c0, trivial⟩, hb2⟩))
  rename (_ ∧ _) ∧ Below _ _ _ => hF
  have HF := Lib.hid hF.2
  have Hown2 := Lib.hid hown2.out
  rw [List.nil_append, Nat.zero_add] at Hown2
  obtain ⟨A2, cap2, rfl, _, _, _⟩ := own_form Hown2.out
  clear hF hS hb2 hS2 hg2 hown2 hst
  go_wp2_with fail
  go_ret
  exact ⟨A2, cap2, rfl, Hown2.out, HF.out⟩
set_option maxHeartbeats 2000000 in
theorem ones_calls (x : Nat) (w : World) (hx : x < 18446744073709551616) :
    Calls Tryz.prog 93 #[.int .u64 (x : Int)] w fun e w' => ∃ r : Nat, e = .returned (.int .i64 (r : Int)) ∧ r ≤ 127 ∧ w = w' := by
  go_enter Tryz.func93, Tryz.ntmps93
  go_wp2_with fail
  go_ret
  have key : ∀ y : Int, ∃ r : Nat, Ending.returned (.int .i64 (bits .and .i64 y 127)) = .returned (.int .i64 (r : Int)) ∧ r ≤ 127 ∧ w = w := by
    intro y
    refine ⟨(y % 128).toNat, ?_, by omega, rfl⟩
    rw [i64_and127]; congr 2; omega
  exact key _
theorem or_bit (X r : Nat) (hX : X < 18446744073709551616) (hr : r < 64) : bits .or .u64 (X : Int) (IntKind.u64.wrap (2 ^ r)) = ((X ||| 2 ^ r : Nat) : Int) := by
  have h2 : 2 ^ r < 18446744073709551616 := Nat.lt_of_lt_of_le (Nat.pow_lt_pow_right (by decide) hr) (Nat.le_refl _)
  have e : IntKind.u64.wrap (2 ^ r) = ((2 ^ r : Nat) : Int) := by
    have e2 : (2 : Int) ^ r = ((2 ^ r : Nat) : Int) := by norm_cast
    rw [e2]
    generalize 2 ^ r = y at *
    show IntKind.u64.wrap ((y : Nat) : Int) = _
    have := wrap_sub_u64_nat (y + 0) 0 18446744073709551616 (by decide)
    simp at this
    rw [this]; omega
  rw [e, bits_or_u64_nat X (2 ^ r) hX h2]
theorem and_bit (X r : Nat) (hX : X < 18446744073709551616) : (bits .and .u64 ((X : Int) / 2 ^ r) 1 == 1) = X.testBit r := by
  have e : (X : Int) / 2 ^ r = ((X / 2 ^ r : Nat) : Int) := by simp
  have h1 : X / 2 ^ r < 18446744073709551616 := Nat.lt_of_le_of_lt (Nat.div_le_self _ _) hX
  have := bits_and_u64_nat (X / 2 ^ r) 1 h1 (by decide)
  rw [e, show (1 : Int) = ((1 : Nat) : Int) from rfl, this, Nat.and_one_is_mod, Nat.testBit_eq_decide_div_mod_eq]
  by_cases h : X / 2 ^ r % 2 = 1
  · rw [h, decide_eq_true rfl]; rfl
  · rw [decide_eq_false h, beq_eq_false_iff_ne]; omega
theorem rep_getD (n i : Nat) : (List.replicate n 0).getD i 0 = 0 := by
  rw [List.getD_eq_getElem?_getD, List.getElem?_replicate]; split <;> rfl
theorem lay_set {w : World} {base g n cap gm : Nat} {A : Option Addr} {zs : List Int} {cs : Array Value} {fr : Nat × Nat} (h : LayIs w base g A n cap zs) (hm : w.heap[gm]? = some (.cells cs 165 fr)) (j : Nat) (x : Value) : LayIs (w.setCell ⟨gm, j, none⟩ x) base g A n cap zs := by
  have hu : w.grownBy (w.setCell ⟨gm, j, none⟩ x) (some gm) := ⟨rfl, rfl, rfl, by simp [World.setCell], fun k hk hne => by
    have hne' : gm ≠ k := fun h => hne (by rw [h])
    simp [World.setCell, Array.getElem?_modify, hne']⟩
  refine ⟨(hu.block g (lt_heap h.1) ?_).trans h.1, h.2.1.kept hu ?_, h.2.2⟩
  · intro e; injection e with e; subst e; rw [h.1] at hm; injection hm with hm; injection hm with _ hm _; exact absurd hm (by decide)
  · rcases h.2.1.2 with ⟨e, _⟩ | ⟨i, _, _, e, _, hb, _⟩
    · injection e with e; subst e; exact Or.inl rfl
    · injection e with e; subst e
      right; simp only [Value.ownBlock, ne_eq, Option.some.injEq]
      intro e; subst e; rw [hb] at hm; injection hm with hm; injection hm with _ hm _; exact absurd hm (by decide)
/-- An array of words. -/
def Words (w : World) (g : Nat) (M : List Nat) : Prop := w.heap[g]? = some (.cells ((M.map fun (m : Nat) => Value.int .u64 (m : Int)).toArray) 165 (0, 0))
theorem Words.below {w w' : World} {g C : Nat} {M : List Nat} (h : Words w g M) (hb : Below C w w') (hg : g < C) : Words w' g M := (hb.block g hg).trans h
theorem Words.cell {w : World} {g : Nat} {M : List Nat} (h : Words w g M) {j : Nat} (hj : j < M.length) : w.cell? ⟨g, j, none⟩ = some (.int .u64 ((M.getD j 0 : Nat) : Int)) := by
  rw [cell_heap h]; simp [List.getD, hj]
theorem Words.set {w : World} {g : Nat} {M : List Nat} (h : Words w g M) (j x : Nat) : Words (w.setCell ⟨g, j, none⟩ (.int .u64 (x : Int))) g (M.set j x) := by
  unfold Words
  rw [heap_set h]; simp [List.map_set]
theorem words_grown {w w' : World} {base n gm : Nat} {v : Value} {xs : List Value} {M : List Nat} (h : Words w gm M) (ho : w.ownsRow base 3 1 v n xs) (hg : w.grownBy w' v.ownBlock) : Words w' gm M := by
  refine (hg.block gm (lt_heap h) ?_).trans h
  rcases ho.2 with ⟨rfl, _⟩ | ⟨i, _, _, rfl, _, hb, _⟩
  · simp [Value.ownBlock]
  · simp only [Value.ownBlock, ne_eq, Option.some.injEq]
    intro e; subst e
    have hm : w.heap[gm]? = _ := h
    rw [hb] at hm; injection hm with hm; injection hm with _ hm _; exact absurd hm (by decide)
theorem sizeArr : (Tryz.prog.info? 165).map (·.size) = some 16 := by kernel_rfl
theorem ld_words (g : Nat) (M : List Nat) (w : World) (hM : M.length = 16) (h : Words w g M) : (loadVar 165 ⟨g, 0, none⟩).run Tryz.prog w = .ok (.agg (M.map fun (m : Nat) => Value.int .u64 (m : Int)).toArray) w := by
  refine run_loadVar_mid w g 0 _ (M.map fun (m : Nat) => Value.int .u64 (m : Int)) _ ?_ Tryz.underlying165 rfl (by rw [sizeArr, List.length_map, hM])
  intro j v hv
  rw [List.getElem?_map] at hv
  obtain ⟨m, hm, rfl⟩ := Option.map_eq_some_iff.1 hv
  have := h.cell (List.getElem?_eq_some_iff.1 hm).1
  rw [Nat.zero_add, this, List.getD_eq_getElem?_getD, hm]; rfl
theorem idx_arr (C : Array Value) (a : Nat) (m : Int) (w : World) (h : a < 16) (hc : C[a]? = some (.int .u64 m)) : (Instr.index 165 (.agg C) (.int .i64 (a : Int))).run Tryz.prog w = .ok (.int .u64 m) w := by
  have h1 : 0 ≤ (a : Int) ∧ (a : Int) < 16 := by omega
  simp [Instr.index, run_underlying Tryz.underlying165, asIntOf, h1, go_sem, part, hc]
  intro h2; omega
/-- A load of the array, by what it answers. -/
def CanArr (w : World) (v : Value) : Prop := ∃ u p, v = .pointer (some p) ∧ (loadVar 165 p).run Tryz.prog w = .ok u w
noncomputable def arrV (w : World) (v : Value) : Value := by
  classical
  exact if h : CanArr w v then h.choose else undef
theorem arrV_eq {w : World} {p : Addr} {u : Value} (h : (loadVar 165 p).run Tryz.prog w = .ok u w) : arrV w (.pointer (some p)) = u := by
  have hc : CanArr w (.pointer (some p)) := ⟨u, p, rfl, h⟩
  unfold arrV
  rw [dif_pos hc]
  obtain ⟨p', e, h2⟩ := hc.choose_spec
  injection e with e; injection e with e; subst e
  rw [h] at h2
  injection h2 with h2
  exact h2.symm
section
variable {dst : Option Tmp} {ty : TypeId} {pos : String} {af : Array Edge} {gd : Option (Nat × Bool)} {x : Operand} {a : Act} {w : World} {K : Act → World → Prop} {Q : Exit → Act → World → Prop}
theorem load_arr (h : CanArr w (a.eval x)) : Oper.wp Tryz.prog ⟨dst, .load 165 x, ty, pos, af, gd⟩ a w K Q = K (a.put dst (arrV w (a.eval x))) w := by
  obtain ⟨u, p, hv, h⟩ := h
  rw [hv, arrV_eq h]
  unfold Oper.wp execOp
  simp only [hv, Instr.loadAt, Instr.sureAddr, Sem.run_bind, Sem.run_pure, Result.andThen_ok, h]
  rfl
end
attribute [local go_sem ↓] load_arr
set_option maxHeartbeats 4000000 in
set_option maxRecDepth 20000 in
theorem Of_calls (g : Nat) (A : Option Addr) (n cap base : Nat) (zs : List Int) (N : Int) (A' : Option Addr) (k cap' B : Nat) (vs : List Int) (w : World) (h : LayIs w base g A n cap zs) (hg : La.Good N zs) (hk : k = vs.length) (hkm : k ≤ 1099511627776) (hB : B ≤ w.heap.size) (hr : Rd w B A' (vs.map VI)) :
    Calls Tryz.prog 51 #[.pointer (some ⟨g, 0, none⟩), .slice A' k cap'] w fun e w' => ∃ A2 m cap2, e = .returned (.slice A2 m cap2) ∧ m = (La.ofL zs vs).length ∧ w'.ownsRow w.heap.size 3 1 (.slice A2 m cap2) m ((La.ofL zs vs).map VI) ∧ Below w.heap.size w w' := by
  have H := Lib.hid h; have Hk := Lib.hid hk; have Hr := Lib.hid hr; have Hg := Lib.hid hg
  have hn1 : n ≤ 1000 := by rw [h.2.2.1]; exact hg.2.2.1
  have hgl := lt_heap h.1
  clear h hk hr hg
  go_enter Tryz.func51, Tryz.ntmps51
  go_upto_block 0 with fail
  obtain ⟨w1, hw1⟩ : ∃ x, x = w.alloc (Obj.cells #[.int .u64 0, .int .u64 0, .int .u64 0, .int .u64 0, .int .u64 0, .int .u64 0, .int .u64 0, .int .u64 0, .int .u64 0, .int .u64 0, .int .u64 0, .int .u64 0, .int .u64 0, .int .u64 0, .int .u64 0, .int .u64 0] 165) := ⟨_, rfl⟩
  rw [← hw1]
  have hs1 : w.heap.size < w1.heap.size := by rw [hw1]; simp
  have hb1 : Below w.heap.size w w1 := by rw [hw1]; exact (Below.refl _ _).alloc (Nat.le_refl _) _
  have HW := Lib.hid (show Words w1 w.heap.size (List.replicate 16 0) by rw [hw1]; exact heap_alloc_new _ _)
  have H1 := Lib.hid (H.out.below hb1); have Hb1 := Lib.hid hb1
  clear hw1 hb1
  go_cut [] (fun w' => ∃ M : List Nat, M.length = 16 ∧ (∀ m ∈ M, m < 18446744073709551616) ∧ Words w' w.heap.size M ∧ (∀ t, t < 1024 → (M.getD (t / 64) 0).testBit (t % 64) = vs.any fun v => decide (La.shardP zs v = (t : Int))) ∧ LayIs w' base g A n cap zs ∧ Below w.heap.size w w')
  case rest =>
    obtain ⟨M, hM, hM64, hWw, hbits, hlay, hbl⟩ := hcut
    have hsz := hbl.size
    have hgw := lt_heap hWw
    have hld := ld_words w.heap.size M wc hM hWw
    have hcan : CanArr wc (.pointer (some ⟨w.heap.size, 0, none⟩)) := ⟨_, _, rfl, hld⟩
    have hval := arrV_eq hld
    have HM := Lib.hid hM; have HM64 := Lib.hid hM64; have HWw := Lib.hid hWw; have Hbits := Lib.hid hbits; have Hlay := Lib.hid hlay; have Hbl := Lib.hid hbl
    clear hM hM64 hWw hbits hlay hbl hld
    go_wp2_with fail
    obtain ⟨C, hC⟩ : ∃ C, C = (M.map fun (m : Nat) => Value.int .u64 (m : Int)).toArray := ⟨_, rfl⟩
    rw [← hC]
    have HC := Lib.hid hC
    have hCs : C.size = 16 := by rw [hC]; simp [HM.out]
    clear hC hcan hval
    go_loopw [6, 36] (fun nn i wr => ∃ (r a : Nat), nn = .int .i64 (r : Int) ∧ i = .int .i64 (a : Int) ∧ a ≤ 16 ∧ r ≤ 127 * a ∧ wc = wr) (fun _ i _ => 16 - (intOf i).toNat)
    case atStart => exact ⟨0, 0, rfl, rfl, by omega, by omega, rfl⟩
    case round =>
      obtain ⟨r, a, rfl, rfl, ha, hra, rfl⟩ := hrel
      by_cases hlt : a < 16
      · have l1 : (a : Int) < 16 := by omega
        have hml : a < M.length := by rw [HM.out]; exact hlt
        have hCa : C[a]? = some (.int .u64 ((M[a] : Nat) : Int)) := by rw [HC.out]; simp [hml]
        have hm64 := HM64.out _ (List.getElem_mem hml)
        generalize M[a] = m at *
        have hidx := fun w => idx_arr C a (m : Int) w hlt hCa
        clear hCa
        go_wp2_with fail
        refine (ones_calls m wc hm64).mono ?_
        rintro e w' ⟨r2, rfl, hr2, rfl⟩
        go_wp2_with fail
        exact ⟨⟨r + r2, a + 1, by congr 1, by congr 1, by omega, by omega, trivial⟩, by simp [intOf]; omega⟩
      · obtain rfl : a = 16 := by omega
        have hmk := make0_int r (by omega)
        have Hown := Lib.hid (World.ownsRow_made (base := w.heap.size) (e := 3) (size := 1) wc (zerosI r) r (by omega) (by unfold maxLen; omega) (by rw [zerosI_size]; omega))
        have Hw4 := Lib.hid (show Below wc.heap.size wc (wc.alloc (.cells (zerosI r) 3)) from (Below.refl _ _).alloc (Nat.le_refl _) _)
        clear hCs HC
        go_wp2_with fail
        have Hlay4 := Lib.hid (Hlay.out.below Hw4.out); have HWw4 := Lib.hid (HWw.out.below Hw4.out hgw); have Hbl4 := Lib.hid (Hbl.out.trans (Hw4.out.mono hsz))
        clear Hlay HWw Hbl hmk
        refine (Shards_calls g A n cap base zs _ Hlay4.out).mono ?_
        rintro e w' ⟨rfl, rfl⟩
        generalize wc.alloc (.cells (zerosI r) 3) = w4 at *
        obtain ⟨i0, hi, hz0, hz1, hz2⟩ := info_parts infoInt
        have Hi := Lib.hid hi
        have Hn := Lib.hid Hlay4.out.2.2.1
        clear hi Hlay4
        go_wp2_with fail
        go_loopw [12, 48] (fun l i wr => ∃ (a m : Nat), i = .int .i64 (a : Int) ∧ a ≤ n ∧ m = (La.ofK zs vs a).length ∧ m ≤ a ∧ wr.ownsRow w.heap.size 3 1 l m ((La.ofK zs vs a).map VI) ∧ Words wr w.heap.size M ∧ Below w.heap.size w wr) (fun _ i _ => n - (intOf i).toNat)
        case atStart => exact ⟨0, 0, rfl, by omega, rfl, by omega, Hown.out, HWw4.out, Hbl4.out⟩
        case round =>
          obtain ⟨a, m, rfl, ha, hm, hma, hown, hWr, hbl⟩ := hrel
          obtain ⟨A1, cap1, rfl, hc1, hm1, _⟩ := own_form hown
          have hszr := hbl.size
          have hgwr := lt_heap hWr
          have Hm := Lib.hid hm; have Hownr := Lib.hid hown; have HWr := Lib.hid hWr; have Hblr := Lib.hid hbl
          clear hm hown hWr hbl
          by_cases hlt : a < n
          · have l1 : (a : Int) < (n : Int) := by omega
            have hs16 : a / 64 < 16 := by omega
            have hcw := HWr.out.cell (j := a / 64) (by rw [HM.out]; exact hs16)
            have hX64 : M.getD (a / 64) 0 < 18446744073709551616 := by
              have hl : a / 64 < M.length := by rw [HM.out]; exact hs16
              rw [List.getD_eq_getElem?_getD, List.getElem?_eq_getElem hl]
              exact HM64.out _ (List.getElem_mem hl)
            have hb := Hbits.out a (by omega)
            obtain ⟨q, hq⟩ : ∃ q, q = a / 64 := ⟨_, rfl⟩
            obtain ⟨rr, hr⟩ : ∃ r, r = a % 64 := ⟨_, rfl⟩
            have hd1 : (a : Int) / 64 = (q : Int) := by omega
            have hd2 : (a : Int) % 64 = (rr : Int) := by omega
            have hr64 : rr < 64 := by omega
            rw [← hq] at hs16 hcw hX64 hb
            rw [← hr] at hb
            obtain ⟨X, hX⟩ : ∃ X, X = M.getD q 0 := ⟨_, rfl⟩
            rw [← hX] at hcw hX64 hb
            have Hb := Lib.hid hb
            clear hq hr hX hb
            go_upto_if 59 with fail
            rw [and_bit X rr hX64, Hb.out]
            have hof := La.ofK_succ zs vs a
            generalize (vs.any fun v => decide (La.shardP zs v = (a : Int))) = bb at *
            have Hof := Lib.hid hof
            clear Hb hof hcw
            cases bb with
            | false =>
              have Hof2 : Hid (La.ofK zs vs (a + 1) = La.ofK zs vs a) := Lib.hid (by rw [Hof.out]; simp)
              go_wp2_with fail
              exact ⟨⟨a + 1, m, by congr 1, by omega, by rw [Hof2.out]; exact Hm.out, by omega, by rw [Hof2.out]; exact Hownr.out, HWr.out, Hblr.out⟩, by simp [intOf]; omega⟩
            | true =>
              have Hof2 : Hid (La.ofK zs vs (a + 1) = La.ofK zs vs a ++ [(a : Int)]) := Lib.hid (by rw [Hof.out]; simp)
              have HownA := Lib.hid (own_below Hownr.out ((Below.refl wr.heap.size wr).alloc (Nat.le_refl _) (.cells #[.int .i64 (a : Int)] 3)) (Nat.le_refl _))
              go_wp2_with (at_builtin; refine wpList_append_rd rfl _ _ 84 rfl w.heap.size 3 i0 _ 8 descInts Hi.out hz0 hz1 hz2 rfl _ m ((La.ofK zs vs a).map VI) rfl HownA.out _ (some ⟨wr.heap.size, 0, none⟩) 1 1 [.int .i64 (a : Int)] rfl rfl (by intro h; cases h) (rd_fresh _ _ _ _ _ _ rfl rfl) (by intro u hu; simp at hu; subst hu; rfl) (by unfold maxLen; omega) (by omega) (by simp; omega) ?_)
              intro v4 w4 hown4 hg4
              have e4 : (La.ofK zs vs a).map VI ++ [.int .i64 (a : Int)] = (La.ofK zs vs (a + 1)).map VI := by rw [Hof2.out, List.map_append]; rfl
              rw [e4] at hown4
              have hne : m + 1 = (La.ofK zs vs (a + 1)).length := by rw [Hof2.out, List.length_append, ← Hm.out]; rfl
              have Hown4 := Lib.hid hown4; have Hne := Lib.hid hne
              have hb4 : Below w.heap.size w w4 := (Hblr.out.alloc hszr _).grown hg4 (by simp; omega) fun k hk => (HownA.out.lt k hk).1
              have Hb4 := Lib.hid hb4
              have HW4 := Lib.hid (words_grown (HWr.out.below ((Below.refl wr.heap.size wr).alloc (Nat.le_refl _) (.cells #[.int .i64 (a : Int)] 3)) hgwr) HownA.out hg4)
              clear hown4 hg4 hb4 e4 HownA hne
              go_wp2_with fail
              exact ⟨⟨a + 1, m + 1, by congr 1, by omega, Hne.out, by omega, Hown4.out, HW4.out, Hb4.out⟩, by simp [intOf]; omega⟩
          · obtain rfl : a = n := by omega
            go_wp2_with fail
            go_ret
            have e : La.ofL zs vs = La.ofK zs vs a := by rw [La.ofL_eq, ← Hn.out]
            rw [e]
            exact ⟨A1, m, cap1, rfl, Hm.out, Hownr.out, Hblr.out⟩
  case first =>
    go_wp2_with fail
    go_loopw [16] (fun i wr => ∃ (a : Nat) (M : List Nat), i = .int .i64 (a : Int) ∧ a ≤ k ∧ M.length = 16 ∧ (∀ m ∈ M, m < 18446744073709551616) ∧ Words wr w.heap.size M ∧
      (∀ t, t < 1024 → (M.getD (t / 64) 0).testBit (t % 64) = (vs.take a).any fun v => decide (La.shardP zs v = (t : Int))) ∧ LayIs wr base g A n cap zs ∧ Below w.heap.size w wr) (fun i _ => k - (intOf i).toNat)
    case atStart => exact ⟨0, List.replicate 16 0, rfl, by omega, rfl, by simp, HW.out, fun t ht => by
      rw [rep_getD]; simp, H1.out, Hb1.out⟩
    case round =>
      obtain ⟨a, M, rfl, ha, hM, hM64, hWw, hbits, hlay, hbl⟩ := hrel
      have hsz := hbl.size
      have hgw := lt_heap hWw
      have HM := Lib.hid hM; have HM64 := Lib.hid hM64; have HWw := Lib.hid hWw; have Hbits := Lib.hid hbits; have Hlay := Lib.hid hlay; have Hbl := Lib.hid hbl
      clear hM hM64 hWw hbits hlay hbl
      by_cases hlt : a < k
      · have l1 : (a : Int) < (k : Int) := by omega
        obtain ⟨v, hv⟩ : ∃ v, vs[a]? = some v := ⟨vs[a]'(by rw [← Hk.out]; omega), List.getElem?_eq_getElem _⟩
        obtain ⟨b, off, rfl, _, hc⟩ := rd_get (Hr.out.below Hbl.out hB) hv
        have Htk := Lib.hid (show vs.take (a + 1) = vs.take a ++ [v] by rw [List.take_add_one, hv]; rfl)
        clear hv
        go_wp2_with fail
        refine (Shard_calls g A n cap base zs v wr Hlay.out Hg.out.1 (by omega)).mono ?_
        rintro e w2 ⟨rfl, hb2⟩
        have Hlay2 := Lib.hid (Hlay.out.below hb2); have HWw2 := Lib.hid (HWw.out.below hb2 hgw); have Hbl2 := Lib.hid (Hbl.out.trans (hb2.mono hsz))
        clear hb2 Hlay HWw
        rcases La.shard_lt zs v Hg.out.1 with hs | ⟨s, hs, hse⟩
        · rw [hs]
          have Hs := Lib.hid hs
          clear hs
          go_wp2_with fail
          refine ⟨⟨a + 1, M, by congr 1, by omega, HM.out, HM64.out, HWw2.out, fun t ht => ?_, Hlay2.out, Hbl2.out⟩, by simp [intOf]; omega⟩
          rw [Hbits.out t ht, Htk.out, List.any_append]
          simp [Hs.out]
          try omega
        · rw [hse]
          have Hse := Lib.hid hse
          have hs16 : s / 64 < 16 := by have := Hg.out.2.2.1; omega
          have hcw := HWw2.out.cell (j := s / 64) (by rw [HM.out]; exact hs16)
          have hX64 : M.getD (s / 64) 0 < 18446744073709551616 := by
            have hl : s / 64 < M.length := by rw [HM.out]; exact hs16
            rw [List.getD_eq_getElem?_getD, List.getElem?_eq_getElem hl]
            exact HM64.out _ (List.getElem_mem hl)
          have hfw : w2.frozen? ⟨w.heap.size, s / 64, none⟩ = false := by simp [World.frozen?, show w2.heap[w.heap.size]? = _ from HWw2.out]
          clear hse
          obtain ⟨q, hq⟩ : ∃ q, q = s / 64 := ⟨_, rfl⟩
          obtain ⟨r, hr⟩ : ∃ r, r = s % 64 := ⟨_, rfl⟩
          have hd1 : (s : Int) / 64 = (q : Int) := by omega
          have hd2 : (s : Int) % 64 = (r : Int) := by omega
          have hr64 : r < 64 := by omega
          rw [← hq] at hs16 hcw hX64 hfw
          have Hq := Lib.hid hq; have Hr2 := Lib.hid hr
          obtain ⟨X, hX⟩ : ∃ X, X = M.getD q 0 := ⟨_, rfl⟩
          rw [← hX] at hcw hX64
          have HXM := Lib.hid hX
          clear hq hr hX
          go_wp2_with fail
          refine region_then (n := 9) (by kernel_rfl) (by kernel_rfl) ?_
          simp only [List.take_succ_cons, List.take_zero, List.drop_succ_cons, List.drop_zero]
          repeat (go_big_quiet_step (fail))
          refine wpQuiet_nil ?_
          intro w' hw'
          obtain ⟨nq, rfl⟩ := hw'
          have Hval := Lib.hid (or_bit X r hX64 hr64)
          have hWd : Words (w2.drewN nq) w.heap.size M := HWw2.out
          have hfd : (w2.drewN nq).frozen? ⟨w.heap.size, q, none⟩ = false := hfw
          have Hlayd := Lib.hid (Hlay2.out.below (below_drewN (Below.refl _ _) nq)); have Hbld := Lib.hid (below_drewN Hbl2.out nq)
          have hcd : (w2.drewN nq).cell? ⟨w.heap.size, q, none⟩ = some (.int .u64 (X : Int)) := hcw
          clear hcw hfw HWw2 Hlay2 Hbl2
          generalize w2.drewN nq = w3 at *
          have Hset := Lib.hid (hWd.set q (X ||| 2 ^ r))
          have hgm : w.heap.size < w3.heap.size := lt_heap hWd
          have Hbs := Lib.hid (show Below w.heap.size w3 (w3.setCell ⟨w.heap.size, q, none⟩ (.int .u64 ((X ||| 2 ^ r : Nat) : Int))) from
            (Below.refl w.heap.size w3).grown (row := some w.heap.size) ⟨rfl, rfl, rfl, by simp [World.setCell], fun k hk hne => by
              have hne' : w.heap.size ≠ k := fun h => hne (by rw [h])
              simp [World.setCell, Array.getElem?_modify, hne']⟩ (by omega) (fun k e => by injection e with e; omega))
          have Hlays := Lib.hid (lay_set Hlayd.out hWd q (.int .u64 ((X ||| 2 ^ r : Nat) : Int)))
          clear hWd
          go_wp2_with fail
          rw [Hval.out]
          refine ⟨⟨a + 1, M.set q (X ||| 2 ^ r), by congr 1, by omega, by rw [List.length_set]; exact HM.out, ?_, Hset.out, ?_, Hlays.out, Hbld.out.trans Hbs.out⟩, by simp [intOf]; omega⟩
          · intro m hm
            rcases List.mem_or_eq_of_mem_set hm with h | h
            · exact HM64.out m h
            · rw [h]; exact Nat.or_lt_two_pow (n := 64) hX64 (Nat.lt_of_lt_of_le (Nat.pow_lt_pow_right (by decide) hr64) (Nat.le_refl _))
          · intro t ht
            have h1 := Hbits.out t ht
            rw [Htk.out, List.any_append, ← h1]
            have hst : decide (La.shardP zs v = (t : Int)) = decide (t = s) := by
              rw [Hse.out]; exact decide_eq_decide.2 (by omega)
            simp only [List.any_cons, List.any_nil, Bool.or_false, hst]
            have hq2 := Hq.out; have hr2 := Hr2.out
            by_cases htq : t / 64 = q
            · have hg : (M.set q (X ||| 2 ^ r)).getD (t / 64) 0 = X ||| 2 ^ r := by
                rw [htq, List.getD_eq_getElem?_getD, List.getElem?_set_self (by rw [HM.out]; exact hs16)]; rfl
              rw [hg, Nat.testBit_or, htq, ← HXM.out, Nat.testBit_two_pow]
              congr 1
              exact decide_eq_decide.2 (by omega)
            · have hg : (M.set q (X ||| 2 ^ r)).getD (t / 64) 0 = M.getD (t / 64) 0 := by
                rw [List.getD_eq_getElem?_getD, List.getElem?_set_ne (Ne.symm htq), ← List.getD_eq_getElem?_getD]
              rw [hg, decide_eq_false (by omega), Bool.or_false]
      · obtain rfl : a = k := by omega
        have Htk := Lib.hid (show vs.take a = vs from List.take_of_length_le (by rw [← Hk.out]; exact Nat.le_refl _))
        go_wp2_with fail
        go_meet
        exact ⟨M, HM.out, HM64.out, HWw.out, by have := Hbits.out; rw [Htk.out] at this; exact this, Hlay.out, Hbl.out⟩
namespace La
theorem newE_range {n : Int} {zs : List Int} (h : n < 0 ∨ 16777216 < n) : newE n zs = 41 := by unfold newE; rw [if_pos h]
theorem newE_bad {n : Int} {zs : List Int} (h : ¬ (n < 0 ∨ 16777216 < n)) (hb : newOk n zs = false) : newE n zs = 100 := by unfold newE; rw [if_neg h, if_neg (by rw [hb]; decide)]
theorem newE_good' {n : Int} {zs : List Int} (h : ¬ (n < 0 ∨ 16777216 < n)) (hb : newOk n zs = true) : newE n zs = 0 := by unfold newE; rw [if_neg h, if_pos hb]
theorem take_snoc {zs : List Int} {a : Nat} {z : Int} (h : zs[a]? = some z) : zs.take (a + 1) = zs.take a ++ [z] := by rw [List.take_add_one, h]; rfl
theorem rises_snoc {zs : List Int} {a : Nat} {z : Int} (h : zs[a]? = some z) (h1 : rises 0 (zs.take a) = true) (h2 : lastI 0 (zs.take a) < z) : rises 0 (zs.take (a + 1)) = true ∧ lastI 0 (zs.take (a + 1)) = z := by
  rw [take_snoc h, rises_append, lastI_append]; exact ⟨⟨h1, h2⟩, rfl⟩
theorem rises_stop {zs : List Int} {a : Nat} {z : Int} (h : zs[a]? = some z) (h2 : z ≤ lastI 0 (zs.take a)) : rises 0 zs = false := by
  cases hr : rises 0 zs with
  | false => rfl
  | true =>
    have := rises_take zs 0 (a + 1) hr
    rw [take_snoc h, rises_append] at this
    omega
theorem newOk_not {n : Int} {zs : List Int} (h : rises 0 zs = false) : newOk n zs = false := by unfold newOk; rw [h]; rfl
end La
def NewAns (w : World) (n : Int) (k : Nat) (zs : List Int) (e : Ending) (w' : World) : Prop := Below w.heap.size w w' ∧
  ((La.newE n zs = 0 ∧ ∃ g A' cap', e = .returned (.tuple #[.pointer (some ⟨g, 0, none⟩), .int .i64 0]) ∧ LayIs w' w.heap.size g A' k cap' zs) ∨ (La.newE n zs ≠ 0 ∧ e = .returned (.tuple #[.pointer none, .int .i64 (La.newE n zs)])))
set_option maxHeartbeats 4000000 in
set_option maxRecDepth 20000 in
theorem New_calls (n : Int) (A : Option Addr) (k cap B : Nat) (zs : List Int) (w : World) (hk : k = zs.length) (hkm : k ≤ 1099511627776) (hnil : A = none → k = 0 ∧ cap = 0) (hB : B ≤ w.heap.size) (hr : Rd w B A (zs.map VI)) :
    Calls Tryz.prog 47 #[.int .i64 n, .slice A k cap] w (NewAns w n k zs) := by
  obtain ⟨i0, hi, hz0, hz1, hz2⟩ := info_parts infoInt
  have Hi := Lib.hid hi; have Hk := Lib.hid hk; have Hr := Lib.hid hr; have Hnil := Lib.hid hnil
  clear hi hk hr hnil
  go_enter Tryz.func47, Tryz.ntmps47
  by_cases hrange : n < 0 ∨ 16777216 < n
  · have He := Lib.hid (@La.newE_range n zs hrange)
    rcases (by omega : n < 0 ∨ (¬ n < 0 ∧ (16777216 : Int) < n)) with h1 | ⟨h1, h2⟩
    · clear hrange
      go_wp2_with fail
      go_ret2
      exact ⟨Below.refl _ _, Or.inr ⟨by rw [He.out]; decide, by rw [He.out]; rfl⟩⟩
    · clear hrange
      go_wp2_with fail
      go_ret2
      exact ⟨Below.refl _ _, Or.inr ⟨by rw [He.out]; decide, by rw [He.out]; rfl⟩⟩
  · have Hrange := Lib.hid hrange
    have h1 : ¬ n < 0 := by omega
    have h2 : ¬ (16777216 : Int) < n := by omega
    clear hrange
    go_wp2_with fail
    go_loopw [6, 17] (fun l i wr => ∃ (a : Nat) (z : Int), i = .int .i64 (a : Int) ∧ l = .int .i64 z ∧ a ≤ k ∧ La.rises 0 (zs.take a) = true ∧ La.lastI 0 (zs.take a) = z ∧ w = wr) (fun _ i _ => k - (intOf i).toNat)
    case atStart => exact ⟨0, 0, rfl, rfl, by omega, by simp [La.rises], by simp [La.lastI], rfl⟩
    case round =>
      obtain ⟨a, z, rfl, rfl, ha, hri, hla, rfl⟩ := hrel
      have Hri := Lib.hid hri; have Hla := Lib.hid hla
      clear hri hla
      by_cases hlt : a < k
      · have l1 : (a : Int) < (k : Int) := by omega
        obtain ⟨y, hy⟩ : ∃ y, zs[a]? = some y := ⟨zs[a]'(by rw [← Hk.out]; omega), List.getElem?_eq_getElem _⟩
        obtain ⟨b, off, rfl, _, hc⟩ := rd_get Hr.out hy
        have Hy := Lib.hid hy
        clear hy
        by_cases hle : y ≤ z
        · have He := Lib.hid (@La.newE_bad n zs Hrange.out (La.newOk_not (La.rises_stop Hy.out (by rw [Hla.out]; exact hle))))
          go_wp2_with fail
          go_ret2
          exact ⟨Below.refl _ _, Or.inr ⟨by rw [He.out]; decide, by rw [He.out]; rfl⟩⟩
        · obtain ⟨s1, s2⟩ := La.rises_snoc Hy.out Hri.out (by rw [Hla.out]; omega)
          have S1 := Lib.hid s1; have S2 := Lib.hid s2
          clear s1 s2
          go_wp2_with fail
          exact ⟨⟨a + 1, y, by congr 1, rfl, by omega, S1.out, S2.out, trivial⟩, by simp [intOf]; omega⟩
      · obtain rfl : a = k := by omega
        have hT : zs.take a = zs := List.take_of_length_le (by rw [← Hk.out]; exact Nat.le_refl _)
        have Hri2 := Lib.hid (show La.rises 0 zs = true by have := Hri.out; rwa [hT] at this)
        have Hla2 := Lib.hid (show La.lastI 0 zs = z by have := Hla.out; rwa [hT] at this)
        clear hT Hri Hla
        by_cases hz : z = n
        · subst hz
          by_cases hb : a ≤ 1000
          · have hb2 : ¬ (1000 : Int) < (a : Int) := by omega
            have He := Lib.hid (@La.newE_good' z zs Hrange.out (by unfold La.newOk; rw [Hri2.out, Hla2.out, decide_eq_true rfl, decide_eq_true (by rw [← Hk.out]; exact hb)]; rfl))
            have hmk := make0_int a (by omega)
            have Hown := Lib.hid (World.ownsRow_made (base := w.heap.size) (e := 3) (size := 1) w (zerosI a) a (Nat.le_refl _) (by unfold maxLen; omega) (by rw [zerosI_size]; omega))
            have Hr1 := Lib.hid (Hr.out.below ((Below.refl w.heap.size w).alloc (Nat.le_refl _) (.cells (zerosI a) 3)) hB)
            have Hk1 := Lib.hid (show a = (zs.map VI).length by rw [List.length_map]; exact Hk.out)
            go_wp2_with (at_builtin; go_loud (refine wpList_append_rd rfl _ _ 84 rfl w.heap.size 3 i0 _ 8 descInts Hi.out hz0 hz1 hz2 rfl _ 0 [] rfl Hown.out B A a cap (zs.map VI) rfl Hk1.out Hnil.out Hr1.out (vi_one zs) (by unfold maxLen; omega) (by omega) (by simp) ?_))
            intro v2 w2 hown2 hg2
            obtain ⟨A2, cap2, rfl, _, _, _⟩ := own_form hown2
            have hb2' : Below w.heap.size w w2 := ((Below.refl w.heap.size w).alloc (Nat.le_refl _) _).grown hg2 (by simp) (fun k hk => by have hk : some w.heap.size = some k := hk; injection hk with hk; omega)
            have Hown2 := Lib.hid hown2; have Hb2 := Lib.hid hb2'
            have hs2 := hb2'.size
            clear hown2 hg2 hb2' hmk Hown
            go_wp2_with fail
            go_ret2
            exact ⟨Hb2.out.alloc hs2 _, Or.inl ⟨He.out, w2.heap.size, A2, cap2, rfl, heap_alloc_new _ _, own_below Hown2.out ((Below.refl w2.heap.size w2).alloc (Nat.le_refl _) _) (Nat.le_refl _), Hk.out, hs2⟩⟩
          · have hb2 : (1000 : Int) < (a : Int) := by omega
            have He := Lib.hid (@La.newE_bad z zs Hrange.out (by unfold La.newOk; rw [decide_eq_false (show ¬ zs.length ≤ 1000 by rw [← Hk.out]; exact hb), Bool.and_false]))
            have hzz : (z != z) = false := by simp
            go_wp2_with fail
            go_ret2
            exact ⟨Below.refl _ _, Or.inr ⟨by rw [He.out]; decide, by rw [He.out]; rfl⟩⟩
        · have hzn : (z != n) = true := by rw [bne_iff_ne]; exact hz
          have He := Lib.hid (@La.newE_bad n zs Hrange.out (by unfold La.newOk; rw [Hla2.out, decide_eq_false hz, Bool.and_false, Bool.false_and]))
          clear hz
          go_wp2_with fail
          go_ret2
          exact ⟨Below.refl _ _, Or.inr ⟨by rw [He.out]; decide, by rw [He.out]; rfl⟩⟩
set_option maxHeartbeats 1000000 in
theorem many_calls (n s : Int) (w : World) : Calls Tryz.prog 92 #[.int .i64 n, .int .i64 s] w fun e w' => e = .returned (.bool (La.many n s)) ∧ w = w' := by
  go_enter Tryz.func92, Tryz.ntmps92
  by_cases h0 : n = 0
  · subst h0
    go_wp2_with fail
    go_ret
    exact ⟨rfl, rfl⟩
  · have e0 : (n == 0) = false := by rw [beq_eq_false_iff_ne]; exact h0
    have hm : La.many n s = (decide (1 ≤ s) && decide (s ≤ n) && decide (s ≤ 1000)) := by unfold La.many; rw [if_neg h0]
    have Hm := Lib.hid hm
    clear h0 hm
    by_cases h1 : 1 ≤ s
    · rcases (by omega : (1000 : Int) < n ∨ ¬ (1000 : Int) < n) with h3 | h3
      · have hle : (decide (1 ≤ s) && decide (s ≤ n) && decide (s ≤ 1000)) = decide (s ≤ 1000) := by
          rw [Bool.eq_iff_iff]; simp only [Bool.and_eq_true, decide_eq_true_eq]; omega
        have Hle := Lib.hid hle
        clear hle
        go_wp2_with fail
        go_ret
        exact ⟨by rw [Hm.out, Hle.out]; rfl, rfl⟩
      · have hle : (decide (1 ≤ s) && decide (s ≤ n) && decide (s ≤ 1000)) = decide (s ≤ n) := by
          rw [Bool.eq_iff_iff]; simp only [Bool.and_eq_true, decide_eq_true_eq]; omega
        have Hle := Lib.hid hle
        clear hle
        go_wp2_with fail
        go_ret
        exact ⟨by rw [Hm.out, Hle.out]; rfl, rfl⟩
    · have h2 : ¬ 1 ≤ s := h1
      go_wp2_with fail
      go_ret
      refine ⟨?_, rfl⟩
      rw [Hm.out, decide_eq_false (show ¬ 1 ≤ s by omega)]; rfl
namespace La
theorem evenE_range {n s : Int} (h : n < 0 ∨ 16777216 < n) : evenE n s = 41 := by unfold evenE; rw [if_pos h]
theorem evenE_bad {n s : Int} (h : ¬ (n < 0 ∨ 16777216 < n)) (hb : many n s = false) : evenE n s = 100 := by unfold evenE; rw [if_neg h, if_neg (by rw [hb]; decide)]
theorem evenE_good {n s : Int} (h : ¬ (n < 0 ∨ 16777216 < n)) (hb : many n s = true) : evenE n s = 0 := by unfold evenE; rw [if_neg h, if_pos hb]
end La
def EvenAns (w : World) (n s : Int) (e : Ending) (w' : World) : Prop := Below w.heap.size w w' ∧
  ((La.evenE n s = 0 ∧ ∃ g A' cap', e = .returned (.tuple #[.pointer (some ⟨g, 0, none⟩), .int .i64 0]) ∧ LayIs w' w.heap.size g A' s.toNat cap' (La.evenL n s s.toNat)) ∨ (La.evenE n s ≠ 0 ∧ e = .returned (.tuple #[.pointer none, .int .i64 (La.evenE n s)])))
theorem even_num (n : Int) (S a : Nat) (hn0 : 0 ≤ n) (hn : n ≤ 16777216) (hS : S ≤ 1000) (hS1 : 1 ≤ S) (ha : a < S) : ∃ p q : Nat, ((a : Int) + 1) * n = (p : Int) ∧ p ≤ 16777216000 ∧ (p : Int) / (S : Int) = (q : Int) ∧ ((a : Int) + 1) * n / (S : Int) = (q : Int) ∧ q ≤ 16777216000 := by
  have h1 : 0 ≤ ((a : Int) + 1) * n := Int.mul_nonneg (by omega) hn0
  have h2 : ((a : Int) + 1) * n ≤ 1000 * 16777216 := Int.mul_le_mul (by omega) hn hn0 (by omega)
  obtain ⟨p, hp⟩ : ∃ p : Nat, ((a : Int) + 1) * n = (p : Int) := ⟨(((a : Int) + 1) * n).toNat, by omega⟩
  refine ⟨p, p / S, hp, by omega, by norm_cast, by rw [hp]; norm_cast, ?_⟩
  have := Nat.div_le_self p S; omega
theorem lay_grown {w w' : World} {base g n cap : Nat} {A : Option Addr} {zs : List Int} (h : LayIs w base g A n cap zs) (hg : w.grownBy w' (Value.slice A n cap).ownBlock) : w'.heap[g]? = some (.cells #[.slice A n cap] 162 (0, 0)) := by
  refine (hg.block g (lt_heap h.1) ?_).trans h.1
  rcases h.2.1.2 with ⟨e, _⟩ | ⟨i, _, _, e, _, hb, _⟩
  · injection e with e; subst e; simp [Value.ownBlock]
  · injection e with e; subst e
    simp only [Value.ownBlock, ne_eq, Option.some.injEq]
    intro e; subst e; rw [h.1] at hb; injection hb with hb; injection hb with _ hb _; exact absurd hb (by decide)
theorem lay_c {w : World} {g : Nat} {v : Value} (h : w.heap[g]? = some (.cells #[v] 162 (0, 0))) : w.cell? ⟨g, 0, none⟩ = some v := by rw [cell_heap h]; rfl
theorem lay_f {w : World} {g : Nat} {v : Value} (h : w.heap[g]? = some (.cells #[v] 162 (0, 0))) : w.frozen? ⟨g, 0, none⟩ = false := by simp [World.frozen?, h]
theorem lay_store {w : World} {base g n cap : Nat} {A : Option Addr} {v : Value} {zs : List Int} (h : w.heap[g]? = some (.cells #[v] 162 (0, 0))) (ho : w.ownsRow base 3 1 (.slice A n cap) n (zs.map VI)) (hn : n = zs.length) (hb : base ≤ g) :
    LayIs (w.setCell ⟨g, 0, none⟩ (.slice A n cap)) base g A n cap zs ∧ Below base w (w.setCell ⟨g, 0, none⟩ (.slice A n cap)) := by
  have hu : w.grownBy (w.setCell ⟨g, 0, none⟩ (.slice A n cap)) (some g) := ⟨rfl, rfl, rfl, by simp [World.setCell], fun k hk hne => by
    have hne' : g ≠ k := fun h => hne (by rw [h])
    simp [World.setCell, Array.getElem?_modify, hne']⟩
  refine ⟨⟨by rw [heap_set h]; rfl, ho.kept hu ?_, hn, hb⟩, (Below.refl base w).grown hu (by have := lt_heap h; omega) (fun k e => by injection e with e; omega)⟩
  rcases ho.2 with ⟨e, _⟩ | ⟨i, _, _, e, _, hb2, _⟩
  · injection e with e; subst e; exact Or.inl rfl
  · injection e with e; subst e
    right; simp only [Value.ownBlock, ne_eq, Option.some.injEq]
    intro e; subst e; rw [h] at hb2; injection hb2 with hb2; injection hb2 with _ hb2 _; exact absurd hb2 (by decide)
set_option maxHeartbeats 8000000 in
set_option maxRecDepth 20000 in
theorem Even_calls (n s : Int) (w : World) : Calls Tryz.prog 48 #[.int .i64 n, .int .i64 s] w (EvenAns w n s) := by
  obtain ⟨i0, hi, hz0, hz1, hz2⟩ := info_parts infoInt
  have Hi := Lib.hid hi
  clear hi
  go_enter Tryz.func48, Tryz.ntmps48
  by_cases hrange : n < 0 ∨ 16777216 < n
  · have He := Lib.hid (@La.evenE_range n s hrange)
    rcases (by omega : n < 0 ∨ (¬ n < 0 ∧ (16777216 : Int) < n)) with h1 | ⟨h1, h2⟩
    · clear hrange
      go_wp2_with fail
      go_ret2
      exact ⟨Below.refl _ _, Or.inr ⟨by rw [He.out]; decide, by rw [He.out]; rfl⟩⟩
    · clear hrange
      go_wp2_with fail
      go_ret2
      exact ⟨Below.refl _ _, Or.inr ⟨by rw [He.out]; decide, by rw [He.out]; rfl⟩⟩
  · have Hrange := Lib.hid hrange
    have h1 : ¬ n < 0 := by omega
    have h2 : ¬ (16777216 : Int) < n := by omega
    clear hrange
    go_wp2_with fail
    refine (many_calls n s w).mono ?_
    rintro e w' ⟨rfl, rfl⟩
    cases hm : La.many n s with
    | false =>
      have He := Lib.hid (@La.evenE_bad n s Hrange.out hm)
      clear hm
      go_wp2_with fail
      go_ret2
      exact ⟨Below.refl _ _, Or.inr ⟨by rw [He.out]; decide, by rw [He.out]; rfl⟩⟩
    | true =>
      have He := Lib.hid (@La.evenE_good n s Hrange.out hm)
      have hsp := La.many_spec hm
      obtain ⟨S, rfl⟩ : ∃ S : Nat, s = (S : Int) := ⟨s.toNat, by omega⟩
      have hS : S ≤ 1000 := by omega
      clear hm
      have hsp : (n = 0 ∧ S = 0) ∨ (1 ≤ S ∧ (S : Int) ≤ n) := by omega
      go_upto_block 0 with fail
      obtain ⟨w1, hw1⟩ : ∃ x, x = w.alloc (Obj.cells #[.slice none 0 0] 162) := ⟨_, rfl⟩
      rw [← hw1]
      have hs1 : w.heap.size < w1.heap.size := by rw [hw1]; simp
      have hb1 : Below w.heap.size w w1 := by rw [hw1]; exact (Below.refl _ _).alloc (Nat.le_refl _) _
      have HL := Lib.hid (show LayIs w1 w.heap.size w.heap.size none 0 0 [] from ⟨by rw [hw1]; exact heap_alloc_new _ _, ⟨rfl, Or.inl ⟨rfl, rfl⟩⟩, rfl, Nat.le_refl _⟩)
      have Hb1 := Lib.hid hb1
      clear hw1 hb1
      go_wp2_with fail
      go_loopw [21] (fun i wr => ∃ (a : Nat) (A1 : Option Addr) (cap1 : Nat), i = .int .i64 (a : Int) ∧ a ≤ S ∧ LayIs wr w.heap.size w.heap.size A1 a cap1 (La.evenL n (S : Int) a) ∧ Below w.heap.size w wr) (fun i _ => S - (intOf i).toNat)
      case atStart => exact ⟨0, none, 0, rfl, by omega, HL.out, Hb1.out⟩
      case round =>
        obtain ⟨a, A1, cap1, rfl, ha, hlay, hbl⟩ := hrel
        have hsz := hbl.size
        have hgl := lt_heap hlay.1
        have Hlay := Lib.hid hlay; have Hbl := Lib.hid hbl
        have c0 := hlay.cell
        clear hlay hbl
        by_cases hlt : a < S
        · have l1 : (a : Int) < (S : Int) := by omega
          obtain ⟨p, q, hp, hpb, hq, hpq, hqb⟩ := even_num n S a (by omega) (by omega) hS (by omega) hlt
          have Hsu := Lib.hid (La.evenL_succ n (S : Int) a)
          rw [hpq] at Hsu
          have hS0 : ¬ (S : Int) = 0 := by omega
          have hS1 : 0 < (S : Int) := by omega
          have e4 : (La.evenL n (S : Int) a).map VI ++ [.int .i64 (q : Int)] = (La.evenL n (S : Int) (a + 1)).map VI := by rw [Hsu.out, List.map_append]; rfl
          have E4 := Lib.hid e4
          clear hpq e4
          go_wp2_with fail
          have m1 : IntKind.i64.wrap ((a : Int) + 1) = (a : Int) + 1 := IntWalk.i64_in _ (by omega)
          have m2 : IntKind.i64.wrap (p : Int) = (p : Int) := IntWalk.i64_in _ (by omega)
          have m3 : IntKind.i64.wrap ((p : Int).tdiv (S : Int)) = (q : Int) := by rw [Int.tdiv_eq_ediv_of_nonneg (by omega), hq]; exact IntWalk.i64_in _ (by omega)
          have m5 : IntKind.i64.wrap (q : Int) = (q : Int) := IntWalk.i64_in _ (by omega)
          have m4 : (S = 0) = False := by rw [eq_iff_iff]; constructor <;> intro hx <;> first | omega | cases hx
          have HownA := Lib.hid (own_below Hlay.out.2.1 ((Below.refl wr.heap.size wr).alloc (Nat.le_refl _) (.cells #[.int .i64 (q : Int)] 3)) (Nat.le_refl _))
          have HlayA := Lib.hid (Hlay.out.below ((Below.refl wr.heap.size wr).alloc (Nat.le_refl _) (.cells #[.int .i64 (q : Int)] 3)))
          have HlayD := Lib.hid (show LayIs (wr.alloc (.cells #[.int .i64 (q : Int)] 3)).drew w.heap.size w.heap.size A1 a cap1 (La.evenL n (S : Int) a) from HlayA.out.below (below_drewN (Below.refl _ _) 1))
          have hbA : w.heap.size ≤ (wr.alloc (.cells #[.int .i64 (q : Int)] 3)).drew.heap.size := by
            show w.heap.size ≤ (wr.alloc (.cells #[.int .i64 (q : Int)] 3)).heap.size
            simp; omega
          have Hbase := Lib.hid hbA
          clear hbA
          have Hrd := Lib.hid (rd_fresh wr wr.heap.size #[.int .i64 (q : Int)] 3 (0, 0) [.int .i64 (q : Int)] rfl rfl)
          go_region_law (refine step_append_rd rfl _ _ 84 rfl w.heap.size 3 i0 _ 8 descInts Hi.out hz0 hz1 hz2 rfl (.slice A1 a cap1) a ((La.evenL n (S : Int) a).map VI) rfl HlayD.out.2.1 _ (some ⟨wr.heap.size, 0, none⟩) 1 1 [.int .i64 (q : Int)] rfl rfl (by intro h; cases h) Hrd.out (by intro u hu; simp at hu; subst hu; rfl) (by unfold maxLen; omega) (by omega) Hbase.out ?_; intro v2 w2 hown2 hg2; obtain ⟨A2, cap2, rfl, hc22, hm22, _⟩ := own_form hown2.out; have HH2 := Lib.hid (lay_grown HlayD.out hg2.out); have hc2 := lay_c HH2.out; have hf2 := lay_f HH2.out)
          all_goals (have hown3 := hown2.out; rw [E4.out] at hown3)
          all_goals (have hst := lay_store HH2.out hown3 (by rw [La.evenL_length]) (Nat.le_refl _))
          all_goals (have hb2 : Below w.heap.size w w2 := (below_drewN (Hbl.out.alloc hsz (.cells #[.int .i64 (q : Int)] 3)) 1).grown hg2.out Hbase.out (fun k hk => (HownA.out.lt k hk).1))
          all_goals (have HL1 := Lib.hid hst.1; have HB1 := Lib.hid (hb2.trans hst.2))
          all_goals clear hown3 hst hb2 hown2 hg2 HH2 hc2 hf2 HlayD HlayA HownA Hrd Hbase c0
          all_goals go_wp2_with fail
          all_goals exact ⟨⟨a + 1, A2, cap2, by congr 1, by omega, HL1.out, HB1.out⟩, by simp [intOf]; omega⟩
        · obtain rfl : a = S := by omega
          go_wp2_with fail
          go_ret2
          exact ⟨Hbl.out, Or.inl ⟨He.out, w.heap.size, A1, cap1, rfl, by rw [Int.toNat_natCast]; exact Hlay.out⟩⟩
namespace La
theorem balE_big {ds : List Int} {s : Int} (h : 16777216 < (ds.length : Int)) : balE ds s = 41 := by unfold balE; rw [if_pos h]
theorem balE_deg {ds : List Int} {s : Int} (h : (ds.length : Int) ≤ 16777216) (hd : degOk ds = false) : balE ds s = 101 := by unfold balE; rw [if_neg (by omega), if_neg (by rw [hd]; decide)]
theorem balE_bad {ds : List Int} {s : Int} (h : (ds.length : Int) ≤ 16777216) (hd : degOk ds = true) (hm : many ds.length s = false) : balE ds s = 100 := by unfold balE; rw [if_neg (by omega), if_pos hd, if_neg (by rw [hm]; decide)]
theorem balE_good {ds : List Int} {s : Int} (h : (ds.length : Int) ≤ 16777216) (hd : degOk ds = true) (hm : many ds.length s = true) : balE ds s = 0 := by unfold balE; rw [if_neg (by omega), if_pos hd, if_pos hm]
theorem degOk_snoc {ds : List Int} {a : Nat} {d : Int} (h : ds[a]? = some d) (h1 : degOk (ds.take a) = true) (h2 : 0 ≤ d) (h3 : d ≤ 16777216) : degOk (ds.take (a + 1)) = true := by
  unfold degOk at h1 ⊢
  rw [List.take_add_one, h, List.all_append, h1]
  simp [h2, h3]
theorem degOk_stop {ds : List Int} {a : Nat} {d : Int} (h : ds[a]? = some d) (h2 : d < 0 ∨ 16777216 < d) : degOk ds = false := by
  cases hr : degOk ds with
  | false => rfl
  | true => have := degOk_get hr h; omega
theorem wt_mul (W : Int) (S : Nat) (h0 : 0 ≤ W) (h1 : W ≤ 281474993487872) (hS : S ≤ 1000) : 0 ≤ W * (S : Int) ∧ W * (S : Int) ≤ 281474993487872000 := by
  have a := Int.mul_nonneg h0 (show (0 : Int) ≤ (S : Int) by omega)
  have b := Int.mul_le_mul h1 (show (S : Int) ≤ 1000 by omega) (by omega) (by omega)
  omega
theorem mul_wt (a S : Nat) (T : Int) (h0 : 0 ≤ T) (h1 : T ≤ 281474993487872) (ha : a < S) (hS : S ≤ 1000) : 0 ≤ ((a : Int) + 1) * T ∧ ((a : Int) + 1) * T ≤ 281474993487872000 := by
  have a1 := Int.mul_nonneg (show (0 : Int) ≤ (a : Int) + 1 by omega) h0
  have b := Int.mul_le_mul (show (a : Int) + 1 ≤ 1000 by omega) h1 h0 (by omega)
  omega
theorem wt_small (ds : List Int) (h : degOk ds = true) (hn : ds.length ≤ 16777216) (c : Nat) (hc : c ≤ ds.length) : 0 ≤ wt ds c ∧ wt ds c ≤ 281474993487872 := by
  have := wt_bound ds h c hc
  omega
theorem adv_stop (W : Nat → Int) (lim s tgt : Int) (f c : Nat) (h : ¬ ((c : Int) < lim ∧ W c * s < tgt)) : adv W lim s tgt f c = c := by
  cases f with
  | zero => rfl
  | succ f => rw [adv, if_neg h]
theorem adv_go (W : Nat → Int) (lim s tgt : Int) (f c : Nat) (h : (c : Int) < lim ∧ W c * s < tgt) : adv W lim s tgt (f + 1) c = adv W lim s tgt f (c + 1) := by rw [adv, if_pos h]
end La
def BalAns (w : World) (ds : List Int) (s : Int) (e : Ending) (w' : World) : Prop := Below w.heap.size w w' ∧
  ((La.balE ds s = 0 ∧ ∃ g A' cap', e = .returned (.tuple #[.pointer (some ⟨g, 0, none⟩), .int .i64 0]) ∧ LayIs w' w.heap.size g A' s.toNat cap' (La.balL ds s.toNat s.toNat)) ∨ (La.balE ds s ≠ 0 ∧ e = .returned (.tuple #[.pointer none, .int .i64 (La.balE ds s)])))
set_option maxHeartbeats 8000000 in
set_option maxRecDepth 20000 in
theorem Balanced_calls (A : Option Addr) (n cap B : Nat) (ds : List Int) (s : Int) (w : World) (hn : n = ds.length) (hc : n ≤ cap) (hcm : cap ≤ maxLen) (hB : B ≤ w.heap.size) (hr : Rd w B A (ds.map VI)) :
    Calls Tryz.prog 49 #[.slice A n cap, .int .i64 s] w (BalAns w ds s) := by
  obtain ⟨i0, hi, hz0, hz1, hz2⟩ := info_parts infoInt
  have Hi := Lib.hid hi; have Hn := Lib.hid hn; have Hr := Lib.hid hr
  unfold maxLen at hcm
  clear hi hn hr
  go_enter Tryz.func49, Tryz.ntmps49
  by_cases hbig : (16777216 : Int) < (n : Int)
  · have He := Lib.hid (@La.balE_big ds s (by rw [← Hn.out]; exact hbig))
    go_wp2_with fail
    go_ret2
    exact ⟨Below.refl _ _, Or.inr ⟨by rw [He.out]; decide, by rw [He.out]; rfl⟩⟩
  · have Hbig := Lib.hid (show (ds.length : Int) ≤ 16777216 by rw [← Hn.out]; omega)
    have hn24 : n ≤ 16777216 := by omega
    go_wp2_with fail
    go_loopw [7, 21] (fun t i wr => ∃ (a : Nat) (T : Int), i = .int .i64 (a : Int) ∧ t = .int .i64 T ∧ a ≤ n ∧ T = La.wt ds a ∧ La.degOk (ds.take a) = true ∧ 0 ≤ T ∧ T ≤ a * 16777217 ∧ w = wr) (fun _ i _ => n - (intOf i).toNat)
    case atStart => exact ⟨0, 0, rfl, rfl, by omega, (La.wt_zero ds).symm, by simp [La.degOk], by omega, by omega, rfl⟩
    case round =>
      obtain ⟨a, T, rfl, rfl, ha, hT, hd, hT0, hT1, rfl⟩ := hrel
      have HT := Lib.hid hT; have Hd := Lib.hid hd
      clear hT hd
      by_cases hlt : a < n
      · have l1 : (a : Int) < (n : Int) := by omega
        obtain ⟨d, hdd⟩ : ∃ d, ds[a]? = some d := ⟨ds[a]'(by rw [← Hn.out]; omega), List.getElem?_eq_getElem _⟩
        obtain ⟨b, off, rfl, _, hcz⟩ := rd_get Hr.out hdd
        have Hdd := Lib.hid hdd
        clear hdd
        by_cases h0 : d < 0
        · have He := Lib.hid (@La.balE_deg ds s Hbig.out (La.degOk_stop Hdd.out (Or.inl h0)))
          go_wp2_with fail
          go_ret2
          exact ⟨Below.refl _ _, Or.inr ⟨by rw [He.out]; decide, by rw [He.out]; rfl⟩⟩
        · by_cases h1 : (16777216 : Int) < d
          · have He := Lib.hid (@La.balE_deg ds s Hbig.out (La.degOk_stop Hdd.out (Or.inr h1)))
            go_wp2_with fail
            go_ret2
            exact ⟨Below.refl _ _, Or.inr ⟨by rw [He.out]; decide, by rw [He.out]; rfl⟩⟩
          · have Hs := Lib.hid (La.wt_succ ds a d Hdd.out)
            have Hd2 := Lib.hid (La.degOk_snoc Hdd.out Hd.out (by omega) (by omega))
            go_wp2_with fail
            exact ⟨⟨a + 1, T + (d + 1), by congr 1, rfl, by omega, by rw [Hs.out, HT.out], Hd2.out, by omega, by push_cast; omega, trivial⟩, by simp [intOf]; omega⟩
      · obtain rfl : a = n := by omega
        have hTk : ds.take a = ds := List.take_of_length_le (by rw [← Hn.out]; exact Nat.le_refl _)
        have Hdo := Lib.hid (show La.degOk ds = true by have := Hd.out; rwa [hTk] at this)
        clear hTk Hd
        go_wp2_with fail
        refine (many_calls (a : Int) s w).mono ?_
        rintro e w' ⟨rfl, rfl⟩
        cases hm : La.many (a : Int) s with
        | false =>
          have He := Lib.hid (@La.balE_bad ds s Hbig.out Hdo.out (by rw [← Hn.out]; exact hm))
          clear hm
          go_wp2_with fail
          go_ret2
          exact ⟨Below.refl _ _, Or.inr ⟨by rw [He.out]; decide, by rw [He.out]; rfl⟩⟩
        | true =>
          have He := Lib.hid (@La.balE_good ds s Hbig.out Hdo.out (by rw [← Hn.out]; exact hm))
          have hsp := La.many_spec hm
          obtain ⟨S, rfl⟩ : ∃ S : Nat, s = (S : Int) := ⟨s.toNat, by omega⟩
          have hS : S ≤ 1000 := by omega
          have hSn : S ≤ a := by omega
          clear hm hsp
          go_upto_block 2 with fail
          obtain ⟨w1, hw1⟩ : ∃ x, x = w.alloc (Obj.cells #[.slice none 0 0] 162) := ⟨_, rfl⟩
          rw [← hw1]
          have hs1 : w.heap.size < w1.heap.size := by rw [hw1]; simp
          have hb1 : Below w.heap.size w w1 := by rw [hw1]; exact (Below.refl _ _).alloc (Nat.le_refl _) _
          have HL := Lib.hid (show LayIs w1 w.heap.size w.heap.size none 0 0 [] from ⟨by rw [hw1]; exact heap_alloc_new _ _, ⟨rfl, Or.inl ⟨rfl, rfl⟩⟩, rfl, Nat.le_refl _⟩)
          have Hb1 := Lib.hid hb1
          clear hw1 hb1
          go_wp2_with fail
          go_loopw [11, 12, 43] (fun c wt i wr => ∃ (x : Nat) (W : Int) (A1 : Option Addr) (cap1 : Nat), i = .int .i64 (x : Int) ∧ x ≤ S ∧ c = .int .i64 ((La.balC ds S x : Nat) : Int) ∧ wt = .int .i64 W ∧ W = La.wt ds (La.balC ds S x) ∧ LayIs wr w.heap.size w.heap.size A1 x cap1 (La.balL ds S x) ∧ Below w.heap.size w wr) (fun _ _ i _ => S - (intOf i).toNat)
          case atStart => exact ⟨0, 0, none, 0, rfl, by omega, rfl, rfl, (La.wt_zero ds).symm, HL.out, Hb1.out⟩
          case round =>
            obtain ⟨x, W, A1, cap1, rfl, hx, rfl, rfl, hW, hlay, hbl⟩ := hrel
            have hsz := hbl.size
            have hgl := lt_heap hlay.1
            have Hlay := Lib.hid hlay; have Hbl := Lib.hid hbl; have HW := Lib.hid hW
            clear hlay hbl hW
            by_cases hlt2 : x < S
            · have l2 : (x : Int) < (S : Int) := by omega
              have hinv := La.balC_inv ds S (by rw [← Hn.out]; exact hSn) x (by omega)
              rw [← Hn.out] at hinv
              have Hnx := Lib.hid (show La.balC ds S (x + 1) = La.adv (La.wt ds) ((a : Int) - ((S : Int) - 1 - x)) S (((x : Int) + 1) * T) a (La.balC ds S x + 1) by rw [La.balC, La.nx, ← Hn.out, HT.out])
              have Hsm := Lib.hid (fun c hc => La.wt_small ds Hdo.out (by rw [← Hn.out]; exact hn24) c (by rw [← Hn.out]; exact hc))
              obtain ⟨c0, hc0⟩ : ∃ c0, c0 = La.balC ds S x := ⟨_, rfl⟩
              rw [← hc0] at hinv Hnx HW
              rw [← hc0]
              clear hc0
              obtain ⟨Y, hY⟩ : ∃ Y, Y = ((x : Int) + 1) * T := ⟨_, rfl⟩
              have hYb := La.mul_wt x S T hT0 (by have := Hsm.out a (Nat.le_refl _); rw [← HT.out] at this; exact this.2) hlt2 hS
              rw [← hY] at hYb Hnx
              have hY2 := hY.symm
              clear hY
              go_upto_block 4 with fail
              go_cut [11, 12] (fun c wt w' => c = .int .i64 ((La.balC ds S (x + 1) : Nat) : Int) ∧ wt = .int .i64 (La.wt ds (La.balC ds S (x + 1))) ∧ wr = w')
              case first =>
                go_wp2_with fail
                go_loopw [11, 12] (fun c wt wx => ∃ (u : Nat) (V : Int), c = .int .i64 (u : Int) ∧ wt = .int .i64 V ∧ V = La.wt ds u ∧ u ≤ a ∧ (u = c0 ∨ (c0 < u ∧ ∃ f : Nat, (a : Int) - ((S : Int) - 1 - x) ≤ (u : Int) + f ∧ La.adv (La.wt ds) ((a : Int) - ((S : Int) - 1 - x)) S Y f u = La.balC ds S (x + 1))) ∧ wr = wx) (fun c _ _ => a - (intOf c).toNat)
                case atStart => exact ⟨c0, W, rfl, rfl, HW.out, by omega, Or.inl rfl, rfl⟩
                case round =>
                  obtain ⟨u, V, rfl, rfl, hV, hu, hst, rfl⟩ := hrel
                  have HV := Lib.hid hV
                  have hVb := Hsm.out u hu
                  rw [← HV.out] at hVb
                  clear hV
                  have hVm := La.wt_mul V S hVb.1 hVb.2 hS
                  have Hstep := Lib.hid (fun d hd => La.wt_succ ds u d hd)
                  have hget : u < a → ∃ d, ds[u]? = some d := fun h => ⟨ds[u]'(by rw [← Hn.out]; exact h), List.getElem?_eq_getElem _⟩
                  rcases hst with rfl | ⟨hcu, f, hf1, hf2⟩
                  · obtain ⟨d, hdd⟩ := hget (by omega)
                    obtain ⟨b, off, rfl, _, hcz⟩ := rd_get (Hr.out.below Hbl.out hB) hdd
                    have Hdd := Lib.hid hdd
                    have hdb := La.degOk_get Hdo.out hdd
                    have huu : ((u : Int) == (u : Int)) = true := by simp
                    have hua : (u : Int) < (a : Int) := by omega
                    clear hdd hget
                    go_wp2_with fail
                    exact ⟨⟨u + 1, V + (d + 1), by congr 1, rfl, by rw [Hstep.out d Hdd.out, HV.out], by omega, Or.inr ⟨by omega, a, by omega, Hnx.out.symm⟩, trivial⟩, by simp [intOf]; omega⟩
                  · have huc : ((u : Int) == (c0 : Int)) = false := by rw [beq_eq_false_iff_ne]; omega
                    by_cases h1 : (u : Int) < (a : Int) - ((S : Int) - 1 - (x : Int))
                    · by_cases h2 : V * (S : Int) < Y
                      · obtain ⟨f', rfl⟩ : ∃ f', f = f' + 1 := ⟨f - 1, by omega⟩
                        have Hf2 := Lib.hid (La.adv_go (La.wt ds) ((a : Int) - ((S : Int) - 1 - x)) S Y f' u ⟨h1, by rw [← HV.out]; exact h2⟩)
                        rw [hf2] at Hf2
                        obtain ⟨d, hdd⟩ := hget (by omega)
                        obtain ⟨b, off, rfl, _, hcz⟩ := rd_get (Hr.out.below Hbl.out hB) hdd
                        have Hdd := Lib.hid hdd
                        have hdb := La.degOk_get Hdo.out hdd
                        have hua : (u : Int) < (a : Int) := by omega
                        clear hdd hget hf2
                        go_wp2_with fail
                        exact ⟨⟨u + 1, V + (d + 1), by congr 1, rfl, by rw [Hstep.out d Hdd.out, HV.out], by omega, Or.inr ⟨by omega, f', by push_cast at hf1 ⊢; omega, Hf2.out.symm⟩, trivial⟩, by simp [intOf]; omega⟩
                      · have Hf2 := Lib.hid (La.adv_stop (La.wt ds) ((a : Int) - ((S : Int) - 1 - x)) S Y f u (fun h => h2 (by rw [HV.out]; exact h.2)))
                        rw [hf2] at Hf2
                        clear hf2 hget
                        go_wp2_with fail
                        go_meet
                        rw [Hf2.out, ← HV.out]
                        exact ⟨rfl, rfl, rfl⟩
                    · have Hf2 := Lib.hid (La.adv_stop (La.wt ds) ((a : Int) - ((S : Int) - 1 - x)) S Y f u (fun h => h1 h.1))
                      rw [hf2] at Hf2
                      clear hf2 hget
                      go_wp2_with fail
                      go_meet
                      rw [Hf2.out, ← HV.out]
                      exact ⟨rfl, rfl, rfl⟩
              case rest =>
                obtain ⟨rfl, rfl, rfl⟩ := hcut
                have Hsu := Lib.hid (La.balL_succ ds S x)
                obtain ⟨q, hq⟩ : ∃ q, q = La.balC ds S (x + 1) := ⟨_, rfl⟩
                rw [← hq] at Hsu ⊢
                have e4 : (La.balL ds S x).map VI ++ [.int .i64 (q : Int)] = (La.balL ds S (x + 1)).map VI := by rw [Hsu.out, List.map_append]; rfl
                have E4 := Lib.hid e4; have Hq := Lib.hid hq
                have c0' := Hlay.out.cell
                have HlayA := Lib.hid (Hlay.out.below ((Below.refl wr.heap.size wr).alloc (Nat.le_refl _) (.cells #[.int .i64 (q : Int)] 3)))
                clear e4 hq
                go_wp2_with (at_builtin; refine wpList_append_rd rfl _ _ 84 rfl w.heap.size 3 i0 _ 8 descInts Hi.out hz0 hz1 hz2 rfl _ x ((La.balL ds S x).map VI) rfl HlayA.out.2.1 _ (some ⟨wr.heap.size, 0, none⟩) 1 1 [.int .i64 (q : Int)] rfl rfl (by intro h; cases h) (rd_fresh _ _ _ _ _ _ rfl rfl) (by intro u hu; simp at hu; subst hu; rfl) (by unfold maxLen; omega) (by omega) (by simp; omega) ?_)
                intro v2 w2 hown2 hg2
                rw [E4.out] at hown2
                obtain ⟨A2, cap2, rfl, _, _, _⟩ := own_form hown2
                have HH2 := Lib.hid (lay_grown HlayA.out hg2)
                have hc2 := lay_c HH2.out
                have hf2 := lay_f HH2.out
                have hst := lay_store HH2.out hown2 (by rw [La.balL_length]) (Nat.le_refl _)
                have hb2 : Below w.heap.size w w2 := (Hbl.out.alloc hsz (.cells #[.int .i64 (q : Int)] 3)).grown hg2 (by simp; omega) (fun k hk => (HlayA.out.2.1.lt k hk).1)
                have HL1 := Lib.hid hst.1; have HB1 := Lib.hid (hb2.trans hst.2)
                clear hst hb2 hown2 hg2 HH2 HlayA c0'
                go_wp2_with fail
                exact ⟨⟨x + 1, La.wt ds q, A2, cap2, by congr 1, by omega, by rw [Hq.out], rfl, by rw [Hq.out], HL1.out, HB1.out⟩, by simp [intOf]; omega⟩
            · obtain rfl : x = S := by omega
              go_wp2_with fail
              go_ret2
              exact ⟨Hbl.out, Or.inl ⟨He.out, w.heap.size, A1, cap1, rfl, by rw [Int.toNat_natCast]; exact Hlay.out⟩⟩
theorem num_calls (x : Int) (w : World) (h0 : 0 ≤ x) (h1 : x ≤ 1000) : Calls Tryz.prog 87 #[.int .i64 x] w fun e w' => e = .returned (.int .i64 x) ∧ w = w' := by
  go_enter Tryz.func87, Tryz.ntmps87
  go_wp2_with fail
  go_ret
  exact ⟨rfl, rfl⟩
namespace La
theorem first_new : newE 6 [2, 3, 6] = 0 := by decide
theorem first_bad : newE 3 [3, 3] = 100 := by decide
theorem first_rng : rng [2, 3, 6] 1 = (2, 3) := by decide
theorem first_of : ofL [2, 3, 6] [5, 0, 5, 9, 1] = [0, 2] := by decide
theorem first_balE : balE [0, 0, 0, 0, 0, 9] 3 = 0 := by decide
theorem first_balL : balL [0, 0, 0, 0, 0, 9] 3 3 = [4, 5, 6] := by decide
theorem first_s5 : shardP [2, 3, 6] 5 = 2 := by decide
theorem first_s6 : shardP [2, 3, 6] 6 = -1 := by decide
theorem first_last : lastI 0 [2, 3, 6] = 6 := by decide
end La
theorem lit_below (w : World) (cs : Array Value) (t : TypeId) : Below w.heap.size w (w.alloc (.cells cs t)) := (Below.refl _ _).alloc (Nat.le_refl _) _
set_option maxHeartbeats 8000000 in
set_option maxRecDepth 20000 in
theorem first_calls (w : World) : Calls Tryz.prog 46 #[] w fun e w' => e = .returned (.bool true) ∧ Below w.heap.size w w' := by
  go_enter Tryz.func46, Tryz.ntmps46
  go_wp2_with fail
  have hb1 := lit_below w #[.int .i64 2, .int .i64 3, .int .i64 6] 3
  have hw1 : w.heap.size + 1 ≤ (w.alloc (.cells #[.int .i64 2, .int .i64 3, .int .i64 6] 3)).heap.size := by simp
  have Hr1 := Lib.hid (rd_fresh w _ #[.int .i64 2, .int .i64 3, .int .i64 6] 3 (0, 0) ([2, 3, 6].map VI) rfl rfl)
  generalize w.alloc (.cells #[.int .i64 2, .int .i64 3, .int .i64 6] 3) = w1 at *
  have Hb1 := Lib.hid hb1
  have hs1 := hb1.size
  clear hb1
  refine (New_calls 6 (some ⟨w.heap.size, 0, none⟩) 3 3 (w.heap.size + 1) [2, 3, 6] w1 rfl (by decide) (by intro h; cases h) hw1 Hr1.out).mono ?_
  rintro e w2 ⟨hb2, (⟨h0, g, A2, cap2, rfl, hlay⟩ | ⟨hne, _⟩)⟩
  case inr => exact absurd La.first_new hne
  have hs2 := hb2.size
  have hg2 := lt_heap hlay.1
  have Hb2 := Lib.hid (Hb1.out.trans (hb2.mono hs1)); have Hlay2 := Lib.hid hlay
  have hgood : La.Good 6 [2, 3, 6] := La.good_new La.first_new
  have Hgood := Lib.hid hgood
  clear hb2 hlay h0 hgood Hr1 Hb1
  go_wp2_with (go_at_call 87; refine (num_calls 0 _ (by omega) (by omega)).mono ?_; rintro e w' ⟨rfl, rfl⟩)
  refine (Range_calls g A2 3 cap2 _ [2, 3, 6] 1 w2 Hlay2.out (by omega)).mono ?_
  rintro e w3 ⟨rfl, k3, rfl⟩
  rw [La.first_rng]
  have Hlay3 := Lib.hid (Hlay2.out.below (below_drewN (Below.refl _ _) k3)); have Hb3 := Lib.hid (below_drewN Hb2.out k3)
  have hg3 : g < (w2.drewN k3).heap.size := hg2
  generalize w2.drewN k3 = w3 at *
  clear Hlay2 Hb2 hg2 hs2
  go_wp2_with fail
  have hs3 := Hb3.out.size
  have hb4 := lit_below w3 #[.int .i64 5, .int .i64 0, .int .i64 5, .int .i64 9, .int .i64 1] 3
  have hw4 : w3.heap.size + 1 ≤ (w3.alloc (.cells #[.int .i64 5, .int .i64 0, .int .i64 5, .int .i64 9, .int .i64 1] 3)).heap.size := by simp
  have Hr4 := Lib.hid (rd_fresh w3 _ #[.int .i64 5, .int .i64 0, .int .i64 5, .int .i64 9, .int .i64 1] 3 (0, 0) ([5, 0, 5, 9, 1].map VI) rfl rfl)
  generalize w3.alloc (.cells #[.int .i64 5, .int .i64 0, .int .i64 5, .int .i64 9, .int .i64 1] 3) = w4 at *
  have Hlay4 := Lib.hid (Hlay3.out.below hb4); have Hb4 := Lib.hid (Hb3.out.trans (hb4.mono hs3))
  have hs4 := Hb4.out.size
  clear hb4 Hlay3 Hb3
  refine (Of_calls g A2 3 cap2 _ [2, 3, 6] 6 (some ⟨w3.heap.size, 0, none⟩) 5 5 (w3.heap.size + 1) [5, 0, 5, 9, 1] w4 Hlay4.out Hgood.out rfl (by decide) hw4 Hr4.out).mono ?_
  rintro e w5 ⟨A5, m5, cap5, rfl, hm5, hown5, hb5⟩
  rw [La.first_of] at hm5 hown5
  obtain rfl : m5 = 2 := hm5
  have hs5 := hb5.size
  have Hlay5 := Lib.hid (Hlay4.out.below hb5); have Hb5 := Lib.hid (Hb4.out.trans (hb5.mono hs4)); have Hown5 := Lib.hid hown5
  clear hb5 hown5 Hlay4 Hb4 Hr4
  go_wp2_with fail
  have hb6 := lit_below w5 #[.int .i64 0, .int .i64 2] 3
  have hw6 : w5.heap.size + 1 ≤ (w5.alloc (.cells #[.int .i64 0, .int .i64 2] 3)).heap.size := by simp
  have Hr6 := Lib.hid (rd_fresh w5 _ #[.int .i64 0, .int .i64 2] 3 (0, 0) ([0, 2].map VI) rfl rfl)
  generalize w5.alloc (.cells #[.int .i64 0, .int .i64 2] 3) = w6 at *
  have Hlay6 := Lib.hid (Hlay5.out.below hb6); have Hb6 := Lib.hid (Hb5.out.trans (hb6.mono Hb5.out.size)); have Hown6 := Lib.hid (own_below Hown5.out hb6 (Nat.le_refl _))
  obtain ⟨p1, p2⟩ := own_cap Hown6.out
  clear hb6 Hlay5 Hb5 Hown5
  refine (sameI_calls A5 (some ⟨w5.heap.size, 0, none⟩) 2 cap5 2 2 _ _ [0, 2] [0, 2] w6 rfl rfl p1 (by decide) p2 (by unfold maxLen; decide) (own_rd Hown6.out) Hr6.out).mono ?_
  rintro e w7 ⟨rfl, k7, rfl⟩
  rw [decide_eq_true rfl]
  have Hlay7 := Lib.hid (Hlay6.out.below (below_drewN (Below.refl _ _) k7)); have Hb7 := Lib.hid (below_drewN Hb6.out k7)
  generalize w6.drewN k7 = w7 at *
  clear Hlay6 Hb6 Hown6 Hr6 p1 p2 hw6 hw4 hw1
  go_wp2_with fail
  have hb8 := lit_below w7 #[.int .i64 0, .int .i64 0, .int .i64 0, .int .i64 0, .int .i64 0, .int .i64 9] 3
  have hw8 : w7.heap.size + 1 ≤ (w7.alloc (.cells #[.int .i64 0, .int .i64 0, .int .i64 0, .int .i64 0, .int .i64 0, .int .i64 9] 3)).heap.size := by simp
  have Hr8 := Lib.hid (rd_fresh w7 _ #[.int .i64 0, .int .i64 0, .int .i64 0, .int .i64 0, .int .i64 0, .int .i64 9] 3 (0, 0) ([0, 0, 0, 0, 0, 9].map VI) rfl rfl)
  generalize w7.alloc (.cells #[.int .i64 0, .int .i64 0, .int .i64 0, .int .i64 0, .int .i64 0, .int .i64 9] 3) = w8 at *
  have Hlay8 := Lib.hid (Hlay7.out.below hb8); have Hb8 := Lib.hid (Hb7.out.trans (hb8.mono Hb7.out.size))
  clear hb8 Hlay7 Hb7
  refine (Balanced_calls (some ⟨w7.heap.size, 0, none⟩) 6 6 (w7.heap.size + 1) [0, 0, 0, 0, 0, 9] 3 w8 rfl (by decide) (by unfold maxLen; decide) hw8 Hr8.out).mono ?_
  rintro e w9 ⟨hb9, (⟨h0, g9, A9, cap9, rfl, hlay9⟩ | ⟨hne, _⟩)⟩
  case inr => exact absurd La.first_balE hne
  have hlay9 : LayIs w9 w8.heap.size g9 A9 3 cap9 [4, 5, 6] := by
    have e : La.balL [0, 0, 0, 0, 0, 9] (3 : Int).toNat (3 : Int).toNat = [4, 5, 6] := La.first_balL
    rw [e] at hlay9; exact hlay9
  have Hlay9 := Lib.hid (Hlay8.out.below hb9); have Hb9 := Lib.hid (Hb8.out.trans (hb9.mono Hb8.out.size)); have HBal9 := Lib.hid hlay9
  clear hb9 h0 hlay9 Hlay8 Hb8 Hr8 hw8
  go_wp2_with fail
  have hb10 := lit_below w9 #[.int .i64 3, .int .i64 3] 3
  have hw10 : w9.heap.size + 1 ≤ (w9.alloc (.cells #[.int .i64 3, .int .i64 3] 3)).heap.size := by simp
  have Hr10 := Lib.hid (rd_fresh w9 _ #[.int .i64 3, .int .i64 3] 3 (0, 0) ([3, 3].map VI) rfl rfl)
  generalize w9.alloc (.cells #[.int .i64 3, .int .i64 3] 3) = w10 at *
  have Hlay10 := Lib.hid (Hlay9.out.below hb10); have Hb10 := Lib.hid (Hb9.out.trans (hb10.mono Hb9.out.size)); have HBal10 := Lib.hid (HBal9.out.below hb10)
  clear hb10 Hlay9 Hb9 HBal9
  refine (New_calls 3 (some ⟨w9.heap.size, 0, none⟩) 2 2 (w9.heap.size + 1) [3, 3] w10 rfl (by decide) (by intro h; cases h) hw10 Hr10.out).mono ?_
  rintro e w11 ⟨hb11, (⟨h0, _⟩ | ⟨hne, rfl⟩)⟩
  case inl => rw [La.first_bad] at h0; exact absurd h0 (by decide)
  rw [La.first_bad]
  have Hlay11 := Lib.hid (Hlay10.out.below hb11); have Hb11 := Lib.hid (Hb10.out.trans (hb11.mono Hb10.out.size)); have HBal11 := Lib.hid (HBal10.out.below hb11)
  clear hb11 hne Hlay10 Hb10 HBal10 Hr10 hw10
  go_wp2_with (go_at_call 87; refine (num_calls 0 _ (by omega) (by omega)).mono ?_; rintro e w' ⟨rfl, rfl⟩)
  refine (Cuts_calls g9 A9 3 cap9 _ [4, 5, 6] w11 HBal11.out (by decide)).mono ?_
  rintro e w12 ⟨A12, cap12, rfl, hown12, hb12⟩
  have Hlay12 := Lib.hid (Hlay11.out.below hb12); have Hb12 := Lib.hid (Hb11.out.trans (hb12.mono Hb11.out.size)); have Hown12 := Lib.hid hown12
  clear hb12 hown12 Hlay11 Hb11 HBal11
  go_wp2_with fail
  have hb13 := lit_below w12 #[.int .i64 4, .int .i64 5, .int .i64 6] 3
  have Hr13 := Lib.hid (rd_fresh w12 _ #[.int .i64 4, .int .i64 5, .int .i64 6] 3 (0, 0) ([4, 5, 6].map VI) rfl rfl)
  generalize w12.alloc (.cells #[.int .i64 4, .int .i64 5, .int .i64 6] 3) = w13 at *
  have Hlay13 := Lib.hid (Hlay12.out.below hb13); have Hb13 := Lib.hid (Hb12.out.trans (hb13.mono Hb12.out.size)); have Hown13 := Lib.hid (own_below Hown12.out hb13 (Nat.le_refl _))
  obtain ⟨p1, p2⟩ := own_cap Hown13.out
  clear hb13 Hlay12 Hb12 Hown12
  refine (sameI_calls A12 (some ⟨w12.heap.size, 0, none⟩) 3 cap12 3 3 _ _ [4, 5, 6] [4, 5, 6] w13 rfl rfl p1 (by decide) p2 (by unfold maxLen; decide) (own_rd Hown13.out) Hr13.out).mono ?_
  rintro e w14 ⟨rfl, k14, rfl⟩
  rw [decide_eq_true rfl]
  have Hlay14 := Lib.hid (Hlay13.out.below (below_drewN (Below.refl _ _) k14)); have Hb14 := Lib.hid (below_drewN Hb13.out k14)
  generalize w13.drewN k14 = w14 at *
  clear Hlay13 Hb13 Hown13 Hr13 p1 p2
  go_wp2_with fail
  refine (N_calls g A2 3 cap2 _ [2, 3, 6] w14 Hlay14.out).mono ?_
  rintro e w15 ⟨rfl, k15, rfl⟩
  rw [La.first_last]
  have Hlay15 := Lib.hid (Hlay14.out.below (below_drewN (Below.refl _ _) k15)); have Hb15 := Lib.hid (below_drewN Hb14.out k15)
  generalize w14.drewN k15 = w15 at *
  clear Hlay14 Hb14
  go_wp2_with fail
  refine (Shards_calls g A2 3 cap2 _ [2, 3, 6] w15 Hlay15.out).mono ?_
  rintro e w' ⟨rfl, rfl⟩
  go_wp2_with fail
  refine (Shard_calls g A2 3 cap2 _ [2, 3, 6] 5 w15 Hlay15.out Hgood.out.1 (by decide)).mono ?_
  rintro e w16 ⟨rfl, hb16⟩
  rw [La.first_s5]
  have Hlay16 := Lib.hid (Hlay15.out.below hb16); have Hb16 := Lib.hid (Hb15.out.trans (hb16.mono Hb15.out.size))
  clear Hlay15 Hb15 hb16
  go_wp2_with fail
  refine (Shard_calls g A2 3 cap2 _ [2, 3, 6] 6 w16 Hlay16.out Hgood.out.1 (by decide)).mono ?_
  rintro e w17 ⟨rfl, hb17⟩
  rw [La.first_s6]
  have Hb17 := Lib.hid (Hb16.out.trans (hb17.mono Hb16.out.size))
  clear Hlay16 Hb16 hb17
  go_wp2_with (go_at_call 87; refine (num_calls 100 _ (by omega) (by omega)).mono ?_; rintro e w' ⟨rfl, rfl⟩)
  go_ret
  exact ⟨rfl, Hb17.out⟩
open Go.ChangeShapes Go.WideShapes Go.ChangeAt Go.RowKit
theorem own : ownKnob Tryz.prog.godebug = none := by kernel_rfl
theorem laidOut : laidOutB Tryz.prog = true := by kernel_rfl
/-- A slice of ints that came in. -/
def InI (W : World) (A : Option Addr) (n cap : Nat) (zs : List Int) : Prop :=
  n = zs.length ∧ n ≤ cap ∧ cap ≤ maxLen ∧ (A = none → n = 0 ∧ cap = 0) ∧ Rd W W.heap.size A (zs.map VI) ∧ ∀ z ∈ zs, -9223372036854775808 ≤ z ∧ z ≤ 9223372036854775807
theorem open_i64s {H : Type} {enc : TypeId × Value → H} {W : World} {A : Option Addr} {n cap : Nat} {d : DataW H} {p : List MemPlace} {base : Nat} {sp : Nat → Bool} {held : Bool}
    (h0 : DataW.Trod enc Tryz.prog W base sp held 84 (.slice A n cap) d p) : ∃ zs, InI W A n cap zs := by
  obtain ⟨fuel, hf⟩ := h0
  rcases open_ints descInts descInt (by kernel_rfl) hf with ⟨hcs, _⟩ | ⟨x, l, c, zs, hcs, _, hl, hm, hz, _, hcell, hwz⟩
  · simp [Value.cells] at hcs
    obtain ⟨rfl, rfl, rfl⟩ := hcs
    exact ⟨[], rfl, Nat.le_refl _, by unfold maxLen; omega, fun _ => ⟨rfl, rfl⟩, Rd.nil _ _ _, by simp⟩
  · simp [Value.cells] at hcs
    obtain ⟨rfl, rfl, rfl⟩ := hcs
    have hlen : n ≤ zs.length := by rw [hz]; split <;> omega
    refine ⟨zs.take n, by simp; omega, hl, hm, (by intro h; cases h), ?_, fun z hz => bounds_i64 (hwz z (List.mem_of_mem_take hz))⟩
    intro k v hv
    have hk : k < n := by
      have := (List.getElem?_eq_some_iff.1 hv).1
      simp at this; omega
    have hc := hcell k (by omega)
    obtain ⟨b, off, spot⟩ := x
    have hspot : spot = none := by
      have h1 := hcell 0 (by omega)
      simpa [Addr.add] using World.cell?_spot h1
    subst hspot
    rw [Addr.add_lit] at hc
    refine ⟨b, off, rfl, block_lt_of_cell hc, ?_⟩
    rw [hc, ← hv]
    have e : zs.getD k 0 = zs[k]'(by omega) := by simp [List.getD, List.getElem?_eq_getElem (show k < zs.length by omega)]
    rw [e]
    simp [List.getElem?_map, List.getElem?_take, hk, List.getElem?_eq_getElem (show k < zs.length by omega)]
end Go.Proofs.YtmeoafodcniliaaGreatDoor
