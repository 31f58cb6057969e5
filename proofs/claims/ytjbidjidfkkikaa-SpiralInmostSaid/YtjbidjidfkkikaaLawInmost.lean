/- SpiralInmost: the walk -/
import Derived.Test.YtjbidjidfkkikaaSpN
import Derived.Test.YtjbidjidfkkikaaSpP
import Derived.Test.YtjbidjidfkkikaaStJ
import Derived.Test.YtjbidjidfkkikaaLift
namespace Go.Proofs.Ytjbidjidfkkikaa
open Go.RowKit
set_option linter.unusedSimpArgs false
set_option linter.unusedVariables false
theorem cell_lt3 {w : World} {a : Addr} {v : Value} (h : w.cell? a = some v) : a.block < w.heap.size := by
  rcases Nat.lt_or_ge a.block w.heap.size with h1 | h1
  · exact h1
  · simp [World.cell?, Array.getElem?_eq_none h1] at h
theorem ps_at {zs : List Int} {n : Nat} {T : List Int} (hT : St.IsOrd zs n T) {t k : Nat} (ht : t < n) (hk : T[k]? = some (t : Int)) : ∀ m, k < m → m ≤ n → (Sp.ps T n m)[t]? = some (Sp.spot k)
  | m + 1, h1, h2 => by
    have hl : (Sp.ps T n m).length = n := Sp.ps_length T n m
    unfold Sp.ps
    by_cases hkm : k = m
    · subst hkm
      have e : (T.getD k 0).toNat = t := by simp [List.getD, hk]
      rw [e, List.getElem?_set_self (by omega)]
    · have hnd : T.Nodup := (hT.1.nodup_iff).2 ((St.idx_lt n).imp (fun h => by omega))
      have hlT := hT.len
      have hkl := (List.getElem?_eq_some_iff.1 hk).1
      have e : (T.getD m 0).toNat ≠ t := fun he => by
        have hm : T[m]? = some (T[m]'(by omega)) := List.getElem?_eq_getElem _
        obtain ⟨u, hu, hu2⟩ := hT.mem (T[m]'(by omega)) (List.getElem_mem _)
        have : T.getD m 0 = (u : Int) := by simp [List.getD, hm, hu2]
        rw [this] at he
        have hut : u = t := by omega
        subst hut
        have h3 : T[k]'(hkl) = T[m]'(by omega) := by
          have := (List.getElem?_eq_some_iff.1 hk).2
          rw [this, hu2]
        exact (List.pairwise_iff_getElem.1 hnd k m hkl (by omega) (by omega)) h3
      rw [List.getElem?_set_ne e]
      exact ps_at hT ht hk m (by omega) (by omega)
theorem pos_lt {zs : List Int} {n : Nat} {T : List Int} (hT : St.IsOrd zs n T) {p q j i : Nat} (hp : T[p]? = some (j : Int)) (hq : T[q]? = some (i : Int)) (hji : j < i) : p < q ↔ zs.getD i 0 ≤ zs.getD j 0 := by
  obtain ⟨hp1, hp2⟩ := List.getElem?_eq_some_iff.1 hp
  obtain ⟨hq1, hq2⟩ := List.getElem?_eq_some_iff.1 hq
  have hpw := List.pairwise_iff_getElem.1 hT.2
  rcases Nat.lt_trichotomy p q with h | h | h
  · have := hpw p q hp1 hq1 h
    rw [hp2, hq2] at this
    unfold St.Lt at this
    simp only [Int.toNat_natCast] at this
    exact ⟨fun _ => by omega, fun _ => h⟩
  · subst h
    rw [hp2] at hq2; omega
  · have := hpw q p hq1 hp1 h
    rw [hp2, hq2] at this
    unfold St.Lt at this
    simp only [Int.toNat_natCast] at this
    exact ⟨fun h2 => by omega, fun h2 => by omega⟩
/-- Cells of a block, told by a function. -/
def FnIs (w : World) (g n : Nat) (t : TypeId) (f : Nat → Value) : Prop := w.heap[g]? = some (.cells ((List.range n).map f).toArray t (0, 0))
section
variable {w w' : World} {g n : Nat} {t : TypeId} {f : Nat → Value}
theorem FnIs.cell (h : FnIs w g n t f) {i : Nat} (hi : i < n) : w.cell? ⟨g, i, none⟩ = some (f i) := by
  rw [cell_heap h]; simp [hi]
theorem FnIs.fz (h : FnIs w g n t f) (i : Nat) : w.frozen? ⟨g, i, none⟩ = false := frozen_heap h i
theorem FnIs.below {B : Nat} (h : FnIs w g n t f) (hb : Below B w w') (hg : g < B) : FnIs w' g n t f := (hb.block g hg).trans h
theorem FnIs.other (h : FnIs w g n t f) {g2 a : Nat} {u : Value} (hne : g ≠ g2) : FnIs (w.setCell ⟨g2, a, none⟩ u) g n t f := (Below.heap_setCell _ _ _ _ hne).trans h
theorem FnIs.set (h : FnIs w g n t f) (a : Nat) (u : Value) (f' : Nat → Value) (hf : ∀ i, i < n → f' i = if i = a then u else f i) : FnIs (w.setCell ⟨g, a, none⟩ u) g n t f' := by
  unfold FnIs
  rw [heap_set h]
  congr 2
  apply Array.ext'
  simp only [Array.toList_setIfInBounds]
  apply List.ext_getElem?
  intro i
  rw [List.getElem?_set, List.length_map, List.length_range, List.getElem?_map, List.getElem?_map]
  rcases Nat.lt_or_ge i n with h1 | h1
  · rw [List.getElem?_range h1]
    by_cases h2 : a = i
    · subst h2; rw [if_pos rfl, if_pos h1]; simp [hf a h1]
    · rw [if_neg h2]; simp only [Option.map_some]; rw [hf i h1, if_neg (fun h => h2 h.symm)]
  · rw [List.getElem?_eq_none (by simpa using h1)]
    by_cases h2 : a = i
    · subst h2; rw [if_pos rfl, if_neg (by omega)]; rfl
    · rw [if_neg h2]; rfl
end
def seenF (pos : Nat → Nat) (a j : Nat) : Value := .bool ((List.range a).any fun i => pos i == j)
def atF (pos : Nat → Nat) (a i : Nat) : Value := .int .i64 (if i < a then (pos i : Int) else 0)
set_option maxHeartbeats 8000000 in
set_option maxRecDepth 20000 in
theorem law_inmost (A : Option Addr) (n cap : Nat) (zs : List Int) (w : World) (ha : InI w A n cap zs) :
    Calls Try.prog 9 #[.slice A n cap] w fun e w' => e = .returned (.bool true) ∧ Below w.heap.size w w' := by
  obtain ⟨hn, hc, hcm, hnil, hr, _⟩ := ha
  have Hn := Lib.hid hn; have Hr := Lib.hid hr
  unfold maxLen at hcm
  clear hn hr hnil
  go_enter Try.func9, Try.ntmps9
  go_wp2_with fail
  refine (first_calls w).mono ?_
  rintro e w1 ⟨rfl, hb1⟩
  have hs1 := hb1.size
  have Hb1 := Lib.hid hb1
  clear hb1
  by_cases hbig : (600 : Int) < (n : Int)
  · go_wp2_with fail
    go_ret
    exact ⟨rfl, Hb1.out⟩
  have hn3 : n ≤ 600 := by omega
  by_cases hneg : ∃ z ∈ zs, z < 0
  · have Hneg := Lib.hid hneg
    clear hneg
    go_wp2_with fail
    refine (Place_neg A n cap w.heap.size zs w1 Hn.out (by omega) Hneg.out hs1 (Hr.out.below Hb1.out (Nat.le_refl _))).mono ?_
    rintro e w3 ⟨rfl, hb3⟩
    have Hb3 := Lib.hid (Hb1.out.trans (hb3.mono Hb1.out.size))
    clear hb3
    go_wp2_with fail
    go_loopw [6] (fun iv wr => ∃ a : Nat, iv = .int .i64 (a : Int) ∧ a ≤ n ∧ (∀ i, i < a → 0 ≤ zs.getD i 0) ∧ w3 = wr) (fun iv _ => n - (intOf iv).toNat)
    case atStart => exact ⟨0, rfl, by omega, fun i hi => by omega, rfl⟩
    case round =>
      obtain ⟨a, rfl, ha, hpos, rfl⟩ := hrel
      have Hpos := Lib.hid hpos
      clear hpos
      by_cases hlt : a < n
      · have l1 : (a : Int) < (n : Int) := by omega
        obtain ⟨z, hz⟩ : ∃ z, zs[a]? = some z := ⟨zs[a]'(by rw [← Hn.out]; omega), List.getElem?_eq_getElem _⟩
        obtain ⟨b, off, hA, hbB, hcz⟩ := rd_get (Hr.out.below Hb3.out (Nat.le_refl _)) hz
        subst hA
        have Hza := Lib.hid (show zs.getD a 0 = z by simp [List.getD, hz])
        by_cases hz0 : z < 0
        · clear hz
          go_wp2_with fail
          refine (num_calls 240 w3 (by decide) (by decide)).mono ?_
          rintro e w4 ⟨rfl, rfl⟩
          go_wp2_with fail
          go_ret
          exact ⟨rfl, Hb3.out⟩
        · have Hp2 := Lib.hid (show ∀ i, i < a + 1 → 0 ≤ zs.getD i 0 from fun i hi => by
            by_cases h : i = a
            · subst h; rw [Hza.out]; omega
            · exact Hpos.out i (by omega))
          clear hz
          go_wp2_with fail
          exact ⟨⟨a + 1, by congr 1, by omega, Hp2.out, by trivial⟩, by simp [intOf]; omega⟩
      · exfalso
        obtain ⟨z, h1, h2⟩ := Hneg.out
        obtain ⟨i, hi, rfl⟩ := List.mem_iff_getElem.1 h1
        have := Hpos.out i (by have := Hn.out; omega)
        simp [List.getD, List.getElem?_eq_getElem hi] at this
        omega
  · have hpos : ∀ z ∈ zs, 0 ≤ z := fun z hz => by
      by_cases h : z < 0
      · exact absurd ⟨z, hz, h⟩ hneg
      · omega
    have Hpos := Lib.hid hpos
    have Hpos2 := Lib.hid (show ∀ (i : Nat) z, zs[i]? = some z → ¬ z < 0 from fun i z hz => by have := hpos z (List.mem_of_getElem? hz); omega)
    clear hneg hpos
    go_wp2_with fail
    refine (Place_calls A n cap w.heap.size zs w1 Hn.out (by omega) Hpos.out hs1 (Hr.out.below Hb1.out (Nat.le_refl _))).mono ?_
    rintro e w3 ⟨T, A3, cap3, hT, rfl, hown3, hb3⟩
    have HT := Lib.hid hT
    have Hown3 := Lib.hid hown3
    have Hb3 := Lib.hid (Hb1.out.trans (hb3.mono Hb1.out.size))
    have Hc3 := Lib.hid (Bk.own_caps hown3)
    obtain ⟨pos, hps⟩ : ∃ pos : Nat → Nat, ∀ i, i < n → pos i < n ∧ T[pos i]? = some (i : Int) := by
      have : ∀ i : Nat, ∃ k, i < n → k < n ∧ T[k]? = some (i : Int) := fun i => by
        by_cases hi : i < n
        · have hm : (i : Int) ∈ T := hT.1.mem_iff.2 (List.mem_map.2 ⟨i, List.mem_range.2 hi, rfl⟩)
          obtain ⟨k, hk⟩ := List.mem_iff_getElem?.1 hm
          exact ⟨k, fun _ => ⟨by have := (List.getElem?_eq_some_iff.1 hk).1; rw [hT.len] at this; exact this, hk⟩⟩
        · exact ⟨0, fun h => absurd h hi⟩
      exact ⟨fun i => Classical.choose (this i), fun i hi => Classical.choose_spec (this i) hi⟩
    have Hps := Lib.hid hps
    clear hT hown3 hb3 hps
    go_wp2_with fail
    go_loopw [6] (fun iv wr => ∃ a : Nat, iv = .int .i64 (a : Int) ∧ a ≤ n ∧ w3 = wr) (fun iv _ => n - (intOf iv).toNat)
    case atStart => exact ⟨0, rfl, by omega, rfl⟩
    case round =>
      obtain ⟨a, rfl, ha, rfl⟩ := hrel
      by_cases hlt : a < n
      · have l1 : (a : Int) < (n : Int) := by omega
        obtain ⟨z, hz⟩ : ∃ z, zs[a]? = some z := ⟨zs[a]'(by rw [← Hn.out]; omega), List.getElem?_eq_getElem _⟩
        obtain ⟨b, off, hA, hbB, hcz⟩ := rd_get (Hr.out.below Hb3.out (Nat.le_refl _)) hz
        subst hA
        have hz0 := Hpos2.out a z hz
        clear hz
        go_wp2_with fail
        exact ⟨⟨a + 1, by congr 1, by omega, by trivial⟩, by simp [intOf]; omega⟩
      · obtain rfl : a = n := by omega
        have hmk1 := make_int a a (Nat.le_refl _) (by omega)
        have hmk2 := make_bool a a (Nat.le_refl _) (by omega)
        clear hlt ha
        go_wp2_with fail
        refine (num_calls 0 w3 (by decide) (by decide)).mono ?_
        rintro e w4 ⟨rfl, rfl⟩
        go_wp2_with fail
        have Ha0 := Lib.hid (show FnIs ((w3.alloc (.cells (zerosI a) 3)).alloc (.cells (zerosB a) 4)) w3.heap.size a 3 (atF pos 0) from by
          refine FnIs.below (B := w3.heap.size + 1) ?_ ((Below.refl _ _).alloc (by simp) _) (Nat.lt_succ_self _)
          have e : zerosI a = ((List.range a).map (atF pos 0)).toArray := by
            apply Array.ext'
            rw [show zerosI a = madeCells #[.int .i64 0] (a * 1) from rfl, toList_madeCells_one]
            have : (List.range a).map (atF pos 0) = (List.range a).map (fun _ => Value.int .i64 0) := List.map_congr_left fun i hi => by simp [atF]
            rw [this]; simp [List.map_const']
          rw [e]; exact heap_alloc_new _ _)
        have Hs0 := Lib.hid (show FnIs ((w3.alloc (.cells (zerosI a) 3)).alloc (.cells (zerosB a) 4)) (w3.heap.size + 1) a 4 (seenF pos 0) from by
          have e : zerosB a = ((List.range a).map (seenF pos 0)).toArray := by
            apply Array.ext'
            rw [show zerosB a = madeCells #[.bool false] (a * 1) from rfl, toList_madeCells_one]
            have : (List.range a).map (seenF pos 0) = (List.range a).map (fun _ => Value.bool false) := List.map_congr_left fun i hi => by simp [seenF]
            rw [this]; simp [List.map_const']
          rw [e]
          have := heap_alloc_new (w3.alloc (.cells (zerosI a) 3)) (.cells ((List.range a).map (seenF pos 0)).toArray 4)
          rw [show (w3.alloc (.cells (zerosI a) 3)).heap.size = w3.heap.size + 1 by simp] at this
          exact this)
        have Hb4 := Lib.hid (show Below w3.heap.size w3 ((w3.alloc (.cells (zerosI a) 3)).alloc (.cells (zerosB a) 4)) from ((Below.refl _ _).alloc (Nat.le_refl _) _).alloc (by simp) _)
        obtain ⟨ga, hga⟩ : ∃ g, g = w3.heap.size := ⟨_, rfl⟩
        have Hga := Lib.hid hga
        rw [← hga] at Ha0 Hs0 ⊢
        obtain ⟨gs, hgs⟩ : ∃ g, g = ga + 1 := ⟨_, rfl⟩
        have Hgs := Lib.hid hgs
        rw [← hgs] at Hs0
        (try rw [← hgs])
        generalize (w3.alloc (.cells (zerosI a) 3)).alloc (.cells (zerosB a) 4) = w5 at *
        clear hga hgs hmk1 hmk2
        go_loopw [9] (fun iv wr => ∃ i : Nat, iv = .int .i64 (i : Int) ∧ i ≤ a ∧ FnIs wr ga a 3 (atF pos i) ∧ FnIs wr gs a 4 (seenF pos i) ∧ Below w3.heap.size w3 wr) (fun iv _ => a - (intOf iv).toNat)
        case atStart => exact ⟨0, rfl, by omega, Ha0.out, Hs0.out, Hb4.out⟩
        case round =>
          obtain ⟨i, rfl, hi, hat, hse, hbl⟩ := hrel
          have Hat := Lib.hid hat; have Hse := Lib.hid hse; have Hbl := Lib.hid hbl
          clear hat hse hbl
          by_cases hlt : i < a
          · have l1 : (i : Int) < (a : Int) := by omega
            obtain ⟨hp1, hp2⟩ := Hps.out i hlt
            have hpa := ps_at HT.out hlt hp2 a hp1 (Nat.le_refl _)
            obtain ⟨g3, c3, hv3, _, _, hg3⟩ := Bk.own_some Hown3.out (by omega)
            injection hv3 with e1 e2 e3
            subst e1
            subst e3
            have ca := (Hbl.out.cell (p := ⟨g3, i, none⟩) hg3).trans (Bk.own_cell Hown3.out (k := i) (u := VC (fv (Sp.spot (pos i)).1, fv (Sp.spot (pos i)).2)) (by rw [Sp.pl_ps, List.getElem?_map, List.getElem?_map, hpa]; rfl))
            have HI := Lib.hid (Index_spot (pos i) (by omega))
            have hsee := Hse.out.cell hp1
            have hse0 : seenF pos i (pos i) = .bool false := by
              unfold seenF; congr 1
              rw [List.any_eq_false]
              intro j hj hje
              have hj := List.mem_range.1 hj
              have : pos j = pos i := by simpa using hje
              have h1 := (Hps.out j (by omega)).2
              rw [this, hp2] at h1
              injection h1 with h1; omega
            rw [hse0] at hsee
            have hsf := Hse.out.fz (pos i)
            have hac := Hat.out.cell hlt
            have haf := Hat.out.fz i
            have Hat2 := Lib.hid (show FnIs ((wr.setCell ⟨gs, pos i, none⟩ (.bool true)).setCell ⟨ga, i, none⟩ (.int .i64 (pos i : Int))) ga a 3 (atF pos (i + 1)) from
              (Hat.out.other (by have := Hgs.out; omega)).set i _ _ (fun k hk => by
                unfold atF
                by_cases h : k = i
                · subst h; rw [if_pos rfl, if_pos (by omega)]
                · rw [if_neg h]; congr 1
                  by_cases h2 : k < i
                  · rw [if_pos h2, if_pos (by omega)]
                  · rw [if_neg h2, if_neg (by omega)]))
            have Hse2 := Lib.hid (show FnIs ((wr.setCell ⟨gs, pos i, none⟩ (.bool true)).setCell ⟨ga, i, none⟩ (.int .i64 (pos i : Int))) gs a 4 (seenF pos (i + 1)) from
              (Hse.out.set (pos i) (.bool true) _ (fun k hk => by
                unfold seenF
                rw [List.range_succ, List.any_append]
                by_cases h : k = pos i
                · subst h; rw [if_pos rfl]; simp
                · rw [if_neg h]; simp; intro h2; exact absurd h2.symm h)).other (by have := Hgs.out; omega))
            have hac2 : (wr.setCell ⟨gs, pos i, none⟩ (.bool true)).cell? ⟨ga, i, none⟩ = some (atF pos i i) := (Hat.out.other (by have := Hgs.out; omega)).cell hlt
            have haf2 : (wr.setCell ⟨gs, pos i, none⟩ (.bool true)).frozen? ⟨ga, i, none⟩ = false := (Hat.out.other (by have := Hgs.out; omega)).fz i
            have Hbl2 := Lib.hid (show Below w3.heap.size w3 ((wr.setCell ⟨gs, pos i, none⟩ (.bool true)).setCell ⟨ga, i, none⟩ (.int .i64 (pos i : Int))) from
              (Hbl.out.trans ((Upd.setCell (g := gs) wr (pos i) (.bool true)).below (B := w3.heap.size) (by have := Hga.out; have := Hgs.out; omega) Hbl.out.size)).trans ((Upd.setCell (g := ga) _ i _).below (B := w3.heap.size) (by have := Hga.out; omega) (Nat.le_trans Hbl.out.size (Upd.setCell (g := gs) wr (pos i) (.bool true)).size)))
            generalize hpp : pos i = p at *
            have hpn : (p : Int) < (a : Int) := by omega
            have hp0 : ¬ (p : Int) < 0 := by omega
            have hpg : ¬ (a : Int) ≤ (p : Int) := by omega
            have hsp : ∀ v, atF pos i i = v → True := fun _ _ => trivial
            have Hlt := Lib.hid hlt
            clear hp1 hp2 hpa e2 hg3 hse0 hac haf hsp hlt
            unfold atF at hac2
            rw [if_neg (by omega)] at hac2
            dsimp only [VC] at ca
            generalize hsx : Sp.spot p = sx at *
            obtain ⟨sx1, sx2⟩ := sx
            dsimp only at ca HI
            clear hsx
            go_wp2_with fail
            refine (HI.out wr).mono ?_
            rintro e w6 ⟨rfl, rfl⟩
            go_wp2_with fail
            exact ⟨⟨i + 1, by congr 1, by have := Hlt.out; omega, Hat2.out, Hse2.out, Hbl2.out⟩, by simp [intOf]; have := Hlt.out; omega⟩
          · obtain rfl : i = a := by omega
            have Hall := Lib.hid (show ∀ j, j < i → wr.cell? ⟨ga, j, none⟩ = some (.int .i64 (pos j : Int)) from fun j hj => by rw [Hat.out.cell hj]; unfold atF; rw [if_pos hj])
            clear Hat Hse hlt hi Ha0 Hs0 Hb4
            generalize wr = w7 at *
            go_wp2_with fail
            go_loopw [12] (fun iv wr => ∃ k : Nat, iv = .int .i64 (k : Int) ∧ k ≤ i ∧ ∃ d, wr = w7.drewN d) (fun iv _ => i - (intOf iv).toNat)
            case atStart => exact ⟨0, rfl, by omega, 0, rfl⟩
            case round =>
              obtain ⟨k, rfl, hk, hd⟩ := hrel
              have Hd := Lib.hid hd
              clear hd
              by_cases hki : k < i
              · have l1 : (k : Int) < (i : Int) := by omega
                have Hki := Lib.hid hki
                clear hki
                generalize wr = w8 at *
                go_wp2_with fail
                go_loopw [13] (fun jv wq => ∃ j : Nat, jv = .int .i64 (j : Int) ∧ j ≤ k ∧ ∃ d, wq = w7.drewN d) (fun jv _ => k - (intOf jv).toNat)
                case atStart => exact ⟨0, rfl, by omega, Hd.out⟩
                case round =>
                  obtain ⟨j, rfl, hj, hd⟩ := hrel
                  have Hd2 := Lib.hid hd
                  clear hd
                  by_cases hjk : j < k
                  · have l2 : (j : Int) < (k : Int) := by omega
                    have hki := Hki.out
                    obtain ⟨zj, hzj⟩ : ∃ z, zs[j]? = some z := ⟨zs[j]'(by rw [← Hn.out]; omega), List.getElem?_eq_getElem _⟩
                    obtain ⟨zk, hzk⟩ : ∃ z, zs[k]? = some z := ⟨zs[k]'(by rw [← Hn.out]; omega), List.getElem?_eq_getElem _⟩
                    have hR : Rd wr w.heap.size A (zs.map VI) := by
                      obtain ⟨d, rfl⟩ := Hd2.out
                      have h := ((Hr.out.below Hb3.out (Nat.le_refl _)).below (Hbl.out.mono Hb3.out.size) (Nat.le_refl _))
                      exact h.below (below_drewN (Below.refl w.heap.size w7) d) (Nat.le_refl _)
                    obtain ⟨bj, offj, hA, hbj, hcj⟩ := rd_get hR hzj
                    obtain ⟨bk, offk, hA2, hbk, hck⟩ := rd_get hR hzk
                    rw [hA] at hA2
                    injection hA2 with hA2
                    injection hA2 with e1 e2
                    subst e1 e2
                    subst hA
                    have hiff := pos_lt HT.out (Hps.out j (by omega)).2 (Hps.out k hki).2 hjk
                    have gj : zs.getD j 0 = zj := by simp [List.getD, hzj]
                    have gk : zs.getD k 0 = zk := by simp [List.getD, hzk]
                    rw [gj, gk] at hiff
                    have haj : wr.cell? ⟨ga, j, none⟩ = some (.int .i64 (pos j : Int)) := by obtain ⟨d, rfl⟩ := Hd2.out; exact Hall.out j (by omega)
                    have hak : wr.cell? ⟨ga, k, none⟩ = some (.int .i64 (pos k : Int)) := by obtain ⟨d, rfl⟩ := Hd2.out; exact Hall.out k hki
                    have ji : (j : Int) < (i : Int) := by omega
                    have Hdn := Lib.hid (show ∀ q, ∃ d, wr.drewN q = w7.drewN d from fun q => by obtain ⟨d, rfl⟩ := Hd2.out; exact ⟨_, World.drewN_drewN _ _ _⟩)
                    have Hjk := Lib.hid hjk
                    generalize pos j = pj at *
                    generalize pos k = pk at *
                    clear hzj hzk hR gj gk hki hjk
                    rcases Int.lt_trichotomy zk zj with h | h | h
                    · have hp : (pj : Int) < (pk : Int) := by have := hiff.2 (by omega); omega
                      clear hiff
                      go_wp2_with fail
                      go_big_quiet (fail)
                      go_wp2_with fail
                      have haj2 : (wr.drewN nq).cell? ⟨ga, j, none⟩ = some (.int .i64 (pj : Int)) := haj
                      have hak2 : (wr.drewN nq).cell? ⟨ga, k, none⟩ = some (.int .i64 (pk : Int)) := hak
                      have Hdn2 := Lib.hid (show ∀ q, ∃ d, (wr.drewN nq).drewN q = w7.drewN d from fun q => by rw [World.drewN_drewN]; exact Hdn.out _)
                      generalize wr.drewN nq = w9 at *
                      clear haj hak
                      go_big_quiet (fail)
                      go_wp2_with fail
                      exact ⟨⟨j + 1, by congr 1, by have := Hjk.out; omega, Hdn2.out _⟩, by simp [intOf]; have := Hjk.out; omega⟩
                    · have hp : (pj : Int) < (pk : Int) := by have := hiff.2 (by omega); omega
                      subst h
                      clear hiff
                      go_wp2_with fail
                      go_big_quiet (fail)
                      go_wp2_with fail
                      have haj2 : (wr.drewN nq).cell? ⟨ga, j, none⟩ = some (.int .i64 (pj : Int)) := haj
                      have hak2 : (wr.drewN nq).cell? ⟨ga, k, none⟩ = some (.int .i64 (pk : Int)) := hak
                      have Hdn2 := Lib.hid (show ∀ q, ∃ d, (wr.drewN nq).drewN q = w7.drewN d from fun q => by rw [World.drewN_drewN]; exact Hdn.out _)
                      generalize wr.drewN nq = w9 at *
                      clear haj hak
                      go_big_quiet (fail)
                      go_wp2_with fail
                      exact ⟨⟨j + 1, by congr 1, by have := Hjk.out; omega, Hdn2.out _⟩, by simp [intOf]; have := Hjk.out; omega⟩
                    · have hp : ¬ (pj : Int) < (pk : Int) := by intro hh; have := hiff.1 (by omega); omega
                      have hne : (zj == zk) = false := by rw [beq_eq_false_iff_ne]; omega
                      have hnl : decide (zk < zj) = false := decide_eq_false (by omega)
                      clear h
                      clear hiff
                      go_wp2_with fail
                      go_big_quiet (fail)
                      go_wp2_with fail
                      have haj2 : (wr.drewN nq).cell? ⟨ga, j, none⟩ = some (.int .i64 (pj : Int)) := haj
                      have hak2 : (wr.drewN nq).cell? ⟨ga, k, none⟩ = some (.int .i64 (pk : Int)) := hak
                      have Hdn2 := Lib.hid (show ∀ q, ∃ d, (wr.drewN nq).drewN q = w7.drewN d from fun q => by rw [World.drewN_drewN]; exact Hdn.out _)
                      generalize wr.drewN nq = w9 at *
                      clear haj hak
                      go_big_quiet (fail)
                      go_wp2_with fail
                      exact ⟨⟨j + 1, by congr 1, by have := Hjk.out; omega, Hdn2.out _⟩, by simp [intOf]; have := Hjk.out; omega⟩
                  · obtain rfl : j = k := by omega
                    go_wp2_with fail
                    exact ⟨⟨j + 1, by congr 1, by have := Hki.out; omega, Hd2.out⟩, by simp [intOf]; have := Hki.out; omega⟩
              · obtain rfl : k = i := by omega
                have HB := Lib.hid (show Below w.heap.size w wr by obtain ⟨d, rfl⟩ := Hd.out; exact below_drewN (Hb3.out.trans (Hbl.out.mono Hb3.out.size)) d)
                go_wp2_with fail
                go_ret
                exact ⟨rfl, HB.out⟩
end Go.Proofs.Ytjbidjidfkkikaa
