/- SpiralOwn: what the walk holds -/
import Derived.Test.YtmeoafodcniliaaGreatDoorC24
import Derived.Test.YtmeoafodcniliaaGreatDoorStJ
import Derived.Laws.OwnMore
import Derived.Test.YtmeoafodcniliaaGreatDoorBkL
import Derived.Test.YtmeoafodcniliaaGreatDoorBk4
import Derived.Test.YtmeoafodcniliaaGreatDoorBkE
namespace Go.Proofs.YtmeoafodcniliaaGreatDoor
open Go.RowKit
open Bk (Row Is Sep Kept)
set_option linter.unusedSimpArgs false
set_option linter.unusedVariables false
set_option maxRecDepth 20000
namespace Bk
def usedS : Nat → Bool := only [4]
theorem usedS_ok : UsedOK usedS := by intro K hK; revert K; decide
theorem allS : All usedS := by
  intro K hK
  match K, hK with
  | 0, _ => exact empty0.mono (fun l h => h.resolve_left (by decide))
  | 1, _ => exact empty1.mono (fun l h => h.resolve_left (by decide))
  | 2, _ => exact empty2.mono (fun l h => h.resolve_left (by decide))
  | 3, _ => exact empty3.mono (fun l h => h.resolve_left (by decide))
  | 4, _ => exact kind4.mono (fun _ _ => trivial)
  | 5, _ => exact empty5.mono (fun l h => h.resolve_left (by decide))
  | 6, _ => exact empty6.mono (fun l h => h.resolve_left (by decide))
  | 7, _ => exact empty7.mono (fun l h => h.resolve_left (by decide))
  | 8, _ => exact empty8.mono (fun l h => h.resolve_left (by decide))
  | 9, _ => exact empty9.mono (fun l h => h.resolve_left (by decide))
  | 10, _ => exact empty10.mono (fun l h => h.resolve_left (by decide))
  | 11, _ => exact empty11.mono (fun l h => h.resolve_left (by decide))
  | 12, _ => exact empty12.mono (fun l h => h.resolve_left (by decide))
  | 13, _ => exact empty13.mono (fun l h => h.resolve_left (by decide))
  | 14, _ => exact empty14.mono (fun l h => h.resolve_left (by decide))
  | 15, _ => exact empty15.mono (fun l h => h.resolve_left (by decide))
  | 16, _ => exact empty16.mono (fun l h => h.resolve_left (by decide))
  | K + 17, h => omega
end Bk
/-- A place's two parts as doubles. -/
abbrev fp (p : Int × Int) : Nat × Nat := (floatOfInt .f64 p.1, floatOfInt .f64 p.2)
theorem ps_mem (T : List Int) (n : Nat) : ∀ k, k ≤ 16777216 → ∀ p ∈ C24.Sp.ps T n k, (-4294967296 ≤ p.1 ∧ p.1 ≤ 4294967296) ∧ -4294967296 ≤ p.2 ∧ p.2 ≤ 4294967296
  | 0, _, p, hp => by
    unfold C24.Sp.ps at hp
    obtain ⟨_, rfl⟩ := List.mem_replicate.1 hp
    decide
  | k + 1, hk, p, hp => by
    unfold C24.Sp.ps at hp
    rcases List.mem_or_eq_of_mem_set hp with h | h
    · exact ps_mem T n k (by omega) p h
    · subst h
      by_cases h0 : k = 0
      · subst h0; decide
      obtain ⟨r, s, al, h1, h2, h3, h4, -, -, -⟩ := C24.Sp.spot_parts h0
      rw [C24.Sp.spot_eq h1 h2 h3 h4]
      have hr : r ≤ 16777216 := by
        have : (2 * r - 1) * 1 ≤ (2 * r - 1) * (2 * r - 1) := Nat.mul_le_mul_left _ (by omega)
        omega
      have key : ∀ x y : Int, x.natAbs < 4294967296 → y.natAbs < 4294967296 → (-4294967296 ≤ (C24.Sp.tn s x y).1 ∧ (C24.Sp.tn s x y).1 ≤ 4294967296) ∧ -4294967296 ≤ (C24.Sp.tn s x y).2 ∧ (C24.Sp.tn s x y).2 ≤ 4294967296 := fun x y hx hy => by
        have := C24.tn_small s x y 4294967296 hx hy
        omega
      exact key _ _ (by omega) (by omega)
/-- What Place answers, the program's and the document's. -/
theorem place_all (zs : List Int) (hn : zs.length ≤ 1000000) : ∃ (L : List (Int × Int)) (er : Int), (L.length = 0 ∨ L.length = zs.length) ∧ (0 ≤ er ∧ er ≤ 1000) ∧ (∀ p ∈ L, (-4294967296 ≤ p.1 ∧ p.1 ≤ 4294967296) ∧ -4294967296 ≤ p.2 ∧ p.2 ≤ 4294967296) ∧
    (∀ (A : Option Addr) (cap B : Nat) (w : World), B ≤ w.heap.size → Rd w B A (zs.map VI) → Calls Tryz.prog 53 #[.slice A zs.length cap] w fun e w' => ∃ (A' : Option Addr) (cap' : Nat), e = .returned (.tuple #[.slice A' L.length cap', .int .i64 er]) ∧ w'.ownsRow w.heap.size 116 1 (.slice A' L.length cap') L.length ((L.map fp).map VC) ∧ Below w.heap.size w w') ∧
    (∀ (A : Option Addr) (cap B : Nat) (w : World), B ≤ w.heap.size → Rd w B A (zs.map VI) → Calls Tryz.prog 54 #[.slice A zs.length cap] w fun e w' => ∃ (A' : Option Addr) (cap' : Nat), e = .returned (.tuple #[.slice A' L.length cap', .int .i64 er]) ∧ w'.ownsRow w.heap.size 119 2 (.slice A' L.length cap') L.length (C24.spc L) ∧ Below w.heap.size w w') := by
  by_cases hneg : ∃ z ∈ zs, z < 0
  · refine ⟨[], 240, Or.inl rfl, by decide, (by simp), fun A cap B w hB hr => ?_, fun A cap B w hB hr => ?_⟩
    · refine (C24.Place_neg A zs.length cap B zs w rfl hn hneg hB hr).mono ?_
      rintro e w' ⟨rfl, hb⟩
      exact ⟨none, 0, rfl, World.ownsRow_nil _ _ _ _, hb⟩
    · refine (C24.RPlace_neg A zs.length cap B zs w rfl hn hneg hB hr).mono ?_
      rintro e w' ⟨rfl, rfl⟩
      exact ⟨none, 0, rfl, World.ownsRow_nil _ _ _ _, Below.refl _ _⟩
  · have hpos : ∀ z ∈ zs, 0 ≤ z := fun z hz => by
      by_cases h : z < 0
      · exact absurd ⟨z, hz, h⟩ hneg
      · omega
    by_cases hex : ∃ T, C24.St.IsOrd zs zs.length T
    · obtain ⟨T, hT⟩ := hex
      have hl : (C24.Sp.ps T zs.length zs.length).length = zs.length := C24.Sp.ps_length T _ _
      refine ⟨C24.Sp.ps T zs.length zs.length, 0, Or.inr hl, by decide, ps_mem T _ _ (by omega), fun A cap B w hB hr => ?_, fun A cap B w hB hr => ?_⟩
      · refine (C24.Place_calls A zs.length cap B zs w rfl hn hpos hB hr).mono ?_
        rintro e w' ⟨T', A', cap', hT', rfl, ho, hb⟩
        obtain rfl := hT.uniq hT'
        rw [hl]
        rw [C24.Sp.pl_ps] at ho
        exact ⟨A', cap', rfl, ho, hb⟩
      · refine (C24.RPlace_calls A zs.length cap B zs w rfl hn hpos hB hr).mono ?_
        rintro e w' ⟨T', A', cap', hT', rfl, ho, hb⟩
        obtain rfl := hT.uniq hT'
        rw [hl]
        exact ⟨A', cap', rfl, ho, hb⟩
    · refine ⟨[], 0, Or.inl rfl, by decide, (by simp), fun A cap B w hB hr => ?_, fun A cap B w hB hr => ?_⟩
      · refine (C24.Place_calls A zs.length cap B zs w rfl hn hpos hB hr).mono ?_
        rintro e w' ⟨T', A', cap', hT', _⟩
        exact absurd ⟨T', hT'⟩ hex
      · refine (C24.RPlace_calls A zs.length cap B zs w rfl hn hpos hB hr).mono ?_
        rintro e w' ⟨T', A', cap', hT', _⟩
        exact absurd ⟨T', hT'⟩ hex
theorem number_calls (x y : Int) (w : World) : Calls Tryz.prog 56 #[.agg #[.int .i64 x, .int .i64 y]] w fun e w' => e = .returned (.complex .f64 (floatOfInt .f64 x) (floatOfInt .f64 y)) ∧ Below w.heap.size w w' := by
  have hc : ∀ q, (w.alloc q).heap[w.heap.size]? = some q := fun q => heap_alloc_new _ _
  have c0 : (w.alloc (.cells #[.int .i64 x, .int .i64 y] 119)).cell? ⟨w.heap.size, 0, none⟩ = some (.int .i64 x) := by rw [cell_heap (hc _)]; rfl
  have c1 : (w.alloc (.cells #[.int .i64 x, .int .i64 y] 119)).cell? ⟨w.heap.size, 1, none⟩ = some (.int .i64 y) := by rw [cell_heap (hc _)]; rfl
  clear hc
  go_enter Tryz.func56, Tryz.ntmps56
  go_wp2_with fail
  go_ret
  exact ⟨rfl, (Below.refl _ _).alloc (Nat.le_refl _) _⟩
/-- What the walk holds. -/
structure SSt (w0 : World) (kb n : Nat) (mv kv : Value) (zs : List Int) (K : List Bool) (N : Nat) (U : Nat → Prop) (w : World) : Prop where
  is : Is Bk.usedS w kb U N
  mine : Row U w 3 1 mv (n + 2) ((zs ++ [47, 11]).map VI)
  keep : Row U w 4 1 kv (n + 2) (K.map VB)
  low : ∀ g, U g → w0.heap.size ≤ g
  bel : Below w0.heap.size w0 w
  lm : ∀ g, mv.ownBlock = some g → w0.heap.size ≤ g
  lk : ∀ g, kv.ownBlock = some g → w0.heap.size ≤ g
  lz : zs.length = n
  lK : K.length = n + 2
section
variable {w0 w w' : World} {kb n N : Nat} {mv kv : Value} {zs zs' : List Int} {K K' : List Bool} {U : Nat → Prop}
theorem SSt.below (h : SSt w0 kb n mv kv zs K N U w) (hb : Below w.heap.size w w') : SSt w0 kb n mv kv zs K N U w' :=
  ⟨h.is.below hb, h.mine.below hb, h.keep.below hb, h.low, h.bel.trans (hb.mono h.bel.size), h.lm, h.lk, h.lz, h.lK⟩
/-- A row of complex numbers is kept. -/
theorem SSt.push {l : Value} {m : Nat} {ys : List Value} (h : SSt w0 kb n mv kv zs K N U w) (ho : w.ownsRow 0 116 1 l m ys) (hlow : ∀ g, l.ownBlock = some g → w0.heap.size ≤ g) (hI : Is Bk.usedS w' kb (Bk.more U w w' l) (N + 1)) (hK : Kept U w w') :
    SSt w0 kb n mv kv zs K (N + 1) (Bk.more U w w' l) w' :=
  ⟨hI, h.mine.keep hK (Bk.sep_type h.mine.1 ho (by decide)), h.keep.keep hK (Bk.sep_type h.keep.1 ho (by decide)), Bk.more_low h.low hlow h.bel.size, Bk.kept_low h.bel hK h.low h.bel.size, h.lm, h.lk, h.lz, h.lK⟩
theorem SSt.chK (h : SSt w0 kb n mv kv zs K N U w) (hK : Kept (fun g => kv.ownBlock = some g) w w') (ho : w'.ownsRow 0 4 1 kv (n + 2) (K'.map VB)) (hl : K'.length = n + 2) : SSt w0 kb n mv kv zs K' N U w' :=
  ⟨h.is.kept hK (fun g hg he => h.keep.2 g he hg), h.mine.kept hK (fun g hg he => Bk.own_apart h.mine.1 h.keep.1 (by decide) hg he), ⟨ho, h.keep.2⟩, h.low, h.bel.trans (hK.below h.bel.size h.lk), h.lm, h.lk, h.lz, hl⟩
theorem SSt.chM (h : SSt w0 kb n mv kv zs K N U w) (hK : Kept (fun g => mv.ownBlock = some g) w w') (ho : w'.ownsRow 0 3 1 mv (n + 2) ((zs' ++ [47, 11]).map VI)) (hl : zs'.length = n) : SSt w0 kb n mv kv zs' K N U w' :=
  ⟨h.is.kept hK (fun g hg he => h.mine.2 g he hg), ⟨ho, h.mine.2⟩, h.keep.kept hK (fun g hg he => Bk.own_apart h.keep.1 h.mine.1 (by decide) hg he), h.low, h.bel.trans (hK.below h.bel.size h.lm), h.lm, h.lk, hl, h.lK⟩
end
theorem own_zerosB (w : World) (n : Nat) (hn : n ≤ 16777216) : (w.alloc (.cells (C24.zerosB n) 4)).ownsRow w.heap.size 4 1 (.slice (some ⟨w.heap.size, 0, none⟩) n n) n ((List.replicate n false).map VB) := by
  refine ⟨by rw [List.length_map, List.length_replicate]; omega, Or.inr ⟨w.heap.size, n, C24.zerosB n, rfl, Nat.le_refl _, heap_alloc_new _ _, Nat.le_refl _, by unfold maxLen; omega, by rw [C24.zerosB_size]; omega, ?_⟩⟩
  rw [show C24.zerosB n = madeCells #[.bool false] (n * 1) from rfl, toList_madeCells_one, List.take_of_length_le (by simp), List.map_replicate, Nat.mul_one]
theorem take_zs {zs : List Int} {n : Nat} (h : zs.length = n) : ((zs ++ [47, 11]).map VI).take n = zs.map VI := by
  rw [List.map_append, List.take_append_of_le_length (by simp; omega), List.take_of_length_le (by simp; omega)]
theorem rd_take {w : World} {B : Nat} {A : Option Addr} {xs : List Value} (h : Rd w B A xs) (k : Nat) : Rd w B A (xs.take k) := by
  intro j u hu
  rw [List.getElem?_take] at hu
  split at hu
  · exact h j u hu
  · cases hu
theorem isn_eq {a b : Nat} {v : Int} (ha : Fl.IsN a v) (hb : Fl.IsN b v) : FloatKind.f64.format.order a b = some .eq := by
  have := ha.order hb
  rw [show compare v v = Ordering.eq from by simp [Int.compare_eq_eq]] at this
  exact this
theorem pl_own (L : List (Int × Int)) : ∀ z ∈ L.map fp, FloatKind.f64.format.order z.1 z.1 = some .eq ∧ FloatKind.f64.format.order z.2 z.2 = some .eq := fun z hz => by
  obtain ⟨p, _, rfl⟩ := List.mem_map.1 hz
  exact ⟨Bk.order_int _, Bk.order_int _⟩
theorem own79 (L : List (Int × Int)) : ∀ z ∈ L.map fp ++ [(4619567317775286272, 0), (4621256167635550208, 0)], FloatKind.f64.format.order z.1 z.1 = some .eq ∧ FloatKind.f64.format.order z.2 z.2 = some .eq := fun z hz => by
  rcases List.mem_append.1 hz with h | h
  · exact pl_own L z h
  · simp at h
    rcases h with rfl | rfl
    · exact ⟨by decide +kernel, by decide +kernel⟩
    · exact ⟨by decide +kernel, by decide +kernel⟩
theorem cl_map (L : List (Int × Int)) (i : Nat) (h : i = L.length) : Sp.cl (fun j => (L.getD j (0, 0)).1) (fun j => (L.getD j (0, 0)).2) i = L.map fp := by
  subst h
  apply List.ext_getElem?
  intro j
  rcases Nat.lt_or_ge j L.length with hj | hj
  · rw [Sp.cl_get _ _ _ _ hj, List.getElem?_map, List.getElem?_eq_getElem hj]
    simp [List.getD, List.getElem?_eq_getElem hj]
  · rw [List.getElem?_eq_none (by unfold Sp.cl; simpa using hj), List.getElem?_eq_none (by simpa using hj)]
theorem getD_small {L : List (Int × Int)} (h : ∀ p ∈ L, (-4294967296 ≤ p.1 ∧ p.1 ≤ 4294967296) ∧ -4294967296 ≤ p.2 ∧ p.2 ≤ 4294967296) (j : Nat) : (-4294967296 ≤ (L.getD j (0, 0)).1 ∧ (L.getD j (0, 0)).1 ≤ 4294967296) ∧ -4294967296 ≤ (L.getD j (0, 0)).2 ∧ (L.getD j (0, 0)).2 ≤ 4294967296 := by
  rcases Nat.lt_or_ge j L.length with hj | hj
  · have e : L.getD j (0, 0) = L[j] := by simp [List.getD, List.getElem?_eq_getElem hj]
    rw [e]; exact h _ (List.getElem_mem hj)
  · have e : L.getD j (0, 0) = (0, 0) := by simp [List.getD, List.getElem?_eq_none hj]
    rw [e]; decide
/-- The centre of the first i places, of what is kept of the first n. -/
theorem centre_at (L : List (Int × Int)) (X : List (Nat × Nat)) (K : List Bool) (i n gc cl gk ck : Nat) (w0 w : World) (hi : i = L.length) (hi3 : i ≤ 3000) (hn : n ≤ K.length) (hn2 : n ≤ 140737488351232) (hs : ∀ p ∈ L, (-4294967296 ≤ p.1 ∧ p.1 ≤ 4294967296) ∧ -4294967296 ≤ p.2 ∧ p.2 ≤ 4294967296)
    (hc : w0.ownsRow 0 116 1 (.slice (some ⟨gc, 0, none⟩) (i + 2) cl) (i + 2) ((L.map fp ++ X).map VC)) (m : Nat) (hk : w0.ownsRow 0 4 1 (.slice (some ⟨gk, 0, none⟩) m ck) m (K.map VB)) (hb : Below w0.heap.size w0 w) :
    Calls Tryz.prog 58 #[.slice (some ⟨gc, 0, none⟩) i cl, .slice (some ⟨gk, 0, none⟩) n ck] w fun e w' => (∃ P Q, e = .returned (.tuple #[.complex .f64 P Q, .int .i64 (Sp.cs (fun _ => 1) (fun j => (K.take n).getD j false && decide (j < i)) n)]) ∧
      Fl.IsN P (Sp.cs (fun j => (L.getD j (0, 0)).1) (fun j => (K.take n).getD j false && decide (j < i)) n) ∧ Fl.IsN Q (Sp.cs (fun j => (L.getD j (0, 0)).2) (fun j => (K.take n).getD j false && decide (j < i)) n)) ∧ ∃ k, w' = w.drewN k := by
  refine Centre_calls (fun j => (L.getD j (0, 0)).1) (fun j => (L.getD j (0, 0)).2) (some ⟨gc, 0, none⟩) (some ⟨gk, 0, none⟩) i cl n ck w0.heap.size w0.heap.size (K.take n) w hi3 (by simp; omega) hn2 (fun j => (getD_small hs j).1) (fun j => (getD_small hs j).2) ?_ ?_
  · rw [cl_map L i hi]
    have := rd_take ((Bk.own_rd hc).below hb (Nat.le_refl _)) i
    rw [List.map_append, List.take_append_of_le_length (by simp; omega), List.take_of_length_le (by simp; omega)] at this
    exact this
  · have := rd_take ((Bk.own_rd hk).below hb (Nat.le_refl _)) n
    rw [← List.map_take] at this
    exact this
end Go.Proofs.YtmeoafodcniliaaGreatDoor
