/- spiral.Place of any cores that are none below 0 -/
import Derived.Test.YtmeoafodcniliaaGreatDoorSpLa
import Derived.Test.YtmeoafodcniliaaGreatDoorStG
namespace Go.Proofs.YtmeoafodcniliaaGreatDoor.C24
open Go.RowKit
set_option linter.unusedSimpArgs false
set_option linter.unusedVariables false
attribute [local go_sem] run_store_complex
theorem sortStable_calls (c : Int → Int → Int) (L : Int → Int → Prop) (hL : St.Ord c L) (M : List Int) (g n cap base : Nat) (cb : Array Value) (hn2 : n ≤ 1099511627776) (w : World) (hM : M.Pairwise (· < ·)) (hn : M.length = n) (hc : Reads g M c cb w)
    (hown : w.ownsRow base 3 1 (.slice (some ⟨g, 0, none⟩) n cap) n (M.map VI)) :
    Calls Tryz.prog 97 #[.slice (some ⟨g, 0, none⟩) n cap, .func (.func 98) #[] cb] w fun e w' =>
      e = .returned (.tuple #[]) ∧ ∃ R : List Int, R.Perm M ∧ R.Pairwise L ∧ w'.ownsRow base 3 1 (.slice (some ⟨g, 0, none⟩) n cap) n (R.map VI) ∧ Upd g w w' := by
  have HI := Lib.hid (stable_calls c L hL M g n cap base cb hn2 w hM hn hc hown)
  clear hc hown hM hn
  go_enter Tryz.func97, Tryz.ntmps97
  go_wp2_with fail
  refine (HI.out).mono ?_
  rintro e w2 ⟨rfl, hown⟩
  have Hown := Lib.hid hown
  clear hown HI
  go_wp2_with fail
  go_end0
  exact ⟨rfl, Hown.out⟩
theorem own_zeros2 (w : World) (n : Nat) (hn : n ≤ 16777216) : (w.alloc (.cells (zerosI n) 3)).ownsRow w.heap.size 3 1 (.slice (some ⟨w.heap.size, 0, none⟩) n n) n ((rg n 0).map VI) := by
  refine ⟨by rw [List.length_map, rg_length]; omega, Or.inr ⟨w.heap.size, n, zerosI n, rfl, Nat.le_refl _, heap_alloc_new _ _, Nat.le_refl _, by unfold maxLen; omega, by rw [zerosI_size]; omega, ?_⟩⟩
  rw [show zerosI n = madeCells #[.int .i64 0] (n * 1) from rfl, toList_madeCells_one, List.take_of_length_le (by simp)]
  unfold rg
  simp [List.map_const']
set_option maxHeartbeats 8000000 in
set_option maxRecDepth 20000 in
theorem Place_calls (A : Option Addr) (n cap B : Nat) (zs : List Int) (w : World) (hn : n = zs.length) (hm : n ≤ 1000000) (hz : ∀ z ∈ zs, 0 ≤ z) (hB : B ≤ w.heap.size) (hr : Rd w B A (zs.map VI)) :
    Calls Tryz.prog 53 #[.slice A n cap] w fun e w' => ∃ (T : List Int) (A' : Option Addr) (cap' : Nat), St.IsOrd zs n T ∧ e = .returned (.tuple #[.slice A' n cap', .int .i64 0]) ∧
      w'.ownsRow w.heap.size 116 1 (.slice A' n cap') n ((Sp.pl T n n).map VC) ∧ Below w.heap.size w w' := by
  have hmk := make_int n n (Nat.le_refl _) (by omega)
  have hmc := make_c n (by omega)
  have Hn := Lib.hid hn; have Hr := Lib.hid hr; have Hz := Lib.hid hz
  clear hn hr hz
  go_enter Tryz.func53, Tryz.ntmps53
  go_wp2_with fail
  have hbox0 : (w.alloc (.cells #[.slice A n cap] 84)).heap[w.heap.size]? = some (.cells #[.slice A n cap] 84 (0, 0)) := heap_alloc_new _ _
  have hal : Below w.heap.size w (w.alloc (.cells #[.slice A n cap] 84)) := (Below.refl _ _).alloc (Nat.le_refl _) _
  have hsz1 : (w.alloc (.cells #[.slice A n cap] 84)).heap.size = w.heap.size + 1 := by simp
  generalize w.alloc (.cells #[.slice A n cap] 84) = w1 at *
  have Hal := Lib.hid hal; have Hbox := Lib.hid hbox0
  have hown0 := own_zeros2 w1 n (by omega)
  rw [hsz1] at hown0
  have Hown0 := Lib.hid hown0
  have hb0 : Below (w.heap.size + 1) w1 (w1.alloc (.cells (zerosI n) 3)) := (Below.refl _ _).alloc (by omega) _
  have Hb0 := Lib.hid hb0
  clear hal hbox0 hown0 hb0 hmk
  generalize w1.alloc (.cells (zerosI n) 3) = w2 at *
  go_loopw [18] (fun k wr => ∃ a : Nat, k = .int .i64 (a : Int) ∧ a ≤ n ∧ wr.ownsRow (w.heap.size + 1) 3 1 (.slice (some ⟨w.heap.size + 1, 0, none⟩) n n) n ((rg n a).map VI) ∧ Below (w.heap.size + 1) w1 wr) (fun k _ => n - (intOf k).toNat)
  case atStart => exact ⟨0, rfl, by omega, Hown0.out, Hb0.out⟩
  case round =>
    obtain ⟨a, rfl, ha, hown, hbl⟩ := hrel
    have hbox : wr.cell? ⟨w.heap.size, 0, none⟩ = some (.slice A n cap) := by rw [cell_heap ((hbl.block _ (by omega)).trans Hbox.out)]; rfl
    have Hown := Lib.hid hown; have Hbl := Lib.hid hbl
    clear hown hbl
    by_cases hlt : a < n
    · have l1 : (a : Int) < (n : Int) := by omega
      obtain ⟨z, hz⟩ : ∃ z, zs[a]? = some z := ⟨zs[a]'(by rw [← Hn.out]; omega), List.getElem?_eq_getElem _⟩
      have hz0 : ¬ z < 0 := by have := Hz.out z (List.mem_of_getElem? hz); omega
      obtain ⟨b, off, hA, hbB, hcz⟩ := rd_get ((Hr.out.below Hal.out hB).below Hbl.out (by omega)) hz
      subst hA
      have hf := Hown.out.frozenAt a
      obtain ⟨y, hy⟩ : ∃ y, (rg n a)[a]? = some y := ⟨(rg n a)[a]'(by rw [rg_length]; exact hlt), List.getElem?_eq_getElem _⟩
      have hc := Hown.out.cellAt a (by omega)
      rw [List.getElem?_map, hy] at hc
      have hc : wr.cell? ⟨w.heap.size + 1, a, none⟩ = some (.int .i64 y) := hc
      clear hz hy
      go_wp2_with fail
      refine ⟨⟨a + 1, by congr 1, by omega, ?_, Hbl.out.trans ((Upd.setCell wr a _).below (Nat.le_refl _) (by have := Hbl.out.size; omega))⟩, by simp [intOf]; omega⟩
      rw [← rg_set n a hlt, List.map_set]
      exact (Hown.out.stored _ _).1
    · obtain rfl : a = n := by omega
      rw [rg_full] at Hown
      have hreads : Reads (w.heap.size + 1) (St.idx a) (Sp.cf zs) #[.pointer (some ⟨w.heap.size, 0, none⟩)] wr := by
        intro w' x y hu hx hy m
        obtain ⟨x', hx', rfl⟩ := List.mem_map.1 hx
        obtain ⟨y', hy', rfl⟩ := List.mem_map.1 hy
        have hbw : Below (w.heap.size + 1) w1 w' := Hbl.out.trans (hu.below (Nat.le_refl _) (by have := Hbl.out.size; omega))
        have hbox' : w'.cell? ⟨w.heap.size, 0, none⟩ = some (.slice A a cap) := by rw [cell_heap ((hbw.block _ (by omega)).trans Hbox.out)]; rfl
        exact cmp_calls w.heap.size a cap B x' y' A zs (w'.drewN m) Hn.out (List.mem_range.1 hx') (List.mem_range.1 hy') hbox' (((Hr.out.below Hal.out hB).below hbw (by omega)).below (below_drewN (Below.refl _ _) m) (by have := hbw.size; omega))
      have Hreads := Lib.hid hreads
      clear hreads hlt ha
      have hsr := Hbl.out.size
      go_wp2_with fail
      refine (sortStable_calls (Sp.cf zs) (St.Lt zs) (St.ord_cf zs) (St.idx a) (w.heap.size + 1) a a (w.heap.size + 1) #[.pointer (some ⟨w.heap.size, 0, none⟩)] (by omega) wr (St.idx_lt a) (St.idx_length a) Hreads.out Hown.out).mono ?_
      rintro e w4 ⟨rfl, T, ht1, ht2, hown4, hu4⟩
      have hord : St.IsOrd zs a T := ⟨ht1, ht2⟩
      have hT := hord.mem
      have hlen := hord.len
      have HTT := Lib.hid hord
      have HT := Lib.hid hT; have Hlen := Lib.hid hlen; have Hown4 := Lib.hid hown4
      have hb4 : Below (w.heap.size + 1) w1 w4 := Hbl.out.trans (hu4.below (Nat.le_refl _) (by omega))
      have hbox4 : w4.cell? ⟨w.heap.size, 0, none⟩ = some (.slice A a cap) := by rw [cell_heap ((hb4.block _ (by omega)).trans Hbox.out)]; rfl
      have Hb4 := Lib.hid hb4
      have HLT := Lib.hid (show w.heap.size + 1 < w4.heap.size from by have := Hown4.out.2; rcases this with ⟨h, _⟩ | ⟨i, _, _, h, _, hb, _⟩; (· cases h); (· injection h with h1; injection h1 with h2; injection h2 with h3; have := Array.getElem?_eq_some_iff.1 hb; obtain ⟨h4, _⟩ := this; omega))
      have hs4 := hb4.size
      clear ht1 ht2 hord hT hlen hown4 hu4 hb4 Hown Hbl Hreads hbox
      go_wp2_with fail
      have hownC := own_zerosC w4 a (by omega)
      have hbC : Below w4.heap.size w4 (w4.alloc (.cells (zerosC a) 116)) := (Below.refl _ _).alloc (Nat.le_refl _) _
      have HownC := Lib.hid hownC; have HbC := Lib.hid hbC
      have HownT := Lib.hid (own_below Hown4.out hbC (Nat.le_refl _))
      clear hownC hbC hmc hbox4
      generalize w4.alloc (.cells (zerosC a) 116) = w5 at *
      go_loopw [38] (fun k wr => ∃ q : Nat, k = .int .i64 (q : Int) ∧ q ≤ a ∧ wr.ownsRow w4.heap.size 116 1 (.slice (some ⟨w4.heap.size, 0, none⟩) a a) a ((Sp.pl T a q).map VC) ∧ wr.ownsRow (w.heap.size + 1) 3 1 (.slice (some ⟨w.heap.size + 1, 0, none⟩) a a) a (T.map VI) ∧ Below w4.heap.size w4 wr) (fun k _ => a - (intOf k).toNat)
      case atStart => exact ⟨0, rfl, by omega, HownC.out, HownT.out, HbC.out⟩
      case round =>
        obtain ⟨q, rfl, hq, hoc, hot, hbl⟩ := hrel
        have Hoc := Lib.hid hoc; have Hot := Lib.hid hot; have Hbl := Lib.hid hbl
        clear hoc hot hbl
        by_cases hlt : q < a
        · have l1 : (q : Int) < (a : Int) := by omega
          obtain ⟨t, ht, hTq⟩ : ∃ t : Nat, t < a ∧ T[q]? = some (t : Int) := by
            have hql : q < T.length := by rw [Hlen.out]; exact hlt
            obtain ⟨t, ht, he⟩ := HT.out (T[q]'hql) (List.getElem_mem _)
            exact ⟨t, ht, by rw [List.getElem?_eq_getElem hql, he]⟩
          have cT := Hot.out.cellAt q (by omega)
          rw [List.getElem?_map, hTq] at cT
          have cT : wr.cell? ⟨w.heap.size + 1, q, none⟩ = some (.int .i64 (t : Int)) := cT
          have HTq := Lib.hid hTq
          have t1 : (t : Int) < (a : Int) := by omega
          clear hTq
          go_wp2_with fail
          refine (Spot_calls q (by omega) wr).mono ?_
          rintro e w6 ⟨rfl, kd, rfl⟩
          have Hoc6 := Lib.hid (own_below Hoc.out (below_drewN (Below.refl _ _) kd) (Nat.le_refl _)); have Hot6 := Lib.hid (own_below Hot.out (below_drewN (Below.refl _ _) kd) (Nat.le_refl _)); have Hbl6 := Lib.hid (below_drewN Hbl.out kd)
          generalize wr.drewN kd = w7 at *
          obtain ⟨y, hy⟩ : ∃ y, (Sp.pl T a q)[t]? = some y := ⟨(Sp.pl T a q)[t]'(by rw [Sp.pl_length]; exact ht), List.getElem?_eq_getElem _⟩
          have cC := Hoc6.out.cellAt t (by omega)
          rw [List.getElem?_map, hy] at cC
          have cC : w7.cell? ⟨w4.heap.size, t, none⟩ = some (VC y) := cC
          have fC := Hoc6.out.frozenAt t
          have Hpl := Lib.hid (show Sp.pl T a (q + 1) = (Sp.pl T a q).set t (fv (Sp.spot q).1, fv (Sp.spot q).2) by
            rw [Sp.pl]; congr 1
            have := HTq.out; simp [List.getD, this])
          clear hy Hoc Hot Hbl cT
          go_wp2_with fail
          refine ⟨⟨q + 1, by congr 1, by omega, ?_, own_ne Hot6.out (by have := HLT.out; omega) (Upd.setCell w7 t _), Hbl6.out.trans ((Upd.setCell w7 t _).below (Nat.le_refl _) Hbl6.out.size)⟩, by simp [intOf]; omega⟩
          rw [Hpl.out, List.map_set]
          exact (Hoc6.out.stored _ _).1
        · obtain rfl : q = a := by omega
          go_wp2_with fail
          go_ret2
          refine ⟨T, some ⟨w4.heap.size, 0, none⟩, q, HTT.out, rfl, ?_, ?_⟩
          · exact own_base Hoc.out (by have := Hal.out.size; omega)
          · exact (Hal.out.trans (Hb4.out.mono (by omega))).trans (Hbl.out.mono (by omega))
set_option maxHeartbeats 8000000 in
set_option maxRecDepth 20000 in
theorem Place_neg (A : Option Addr) (n cap B : Nat) (zs : List Int) (w : World) (hn : n = zs.length) (hm : n ≤ 1000000) (hz : ∃ z ∈ zs, z < 0) (hB : B ≤ w.heap.size) (hr : Rd w B A (zs.map VI)) :
    Calls Tryz.prog 53 #[.slice A n cap] w fun e w' => e = .returned (.tuple #[.slice none 0 0, .int .i64 240]) ∧ Below w.heap.size w w' := by
  have hmk := make_int n n (Nat.le_refl _) (by omega)
  have Hn := Lib.hid hn; have Hr := Lib.hid hr; have Hz := Lib.hid hz
  clear hn hr hz
  go_enter Tryz.func53, Tryz.ntmps53
  go_wp2_with fail
  have hbox0 : (w.alloc (.cells #[.slice A n cap] 84)).heap[w.heap.size]? = some (.cells #[.slice A n cap] 84 (0, 0)) := heap_alloc_new _ _
  have hal : Below w.heap.size w (w.alloc (.cells #[.slice A n cap] 84)) := (Below.refl _ _).alloc (Nat.le_refl _) _
  have hsz1 : (w.alloc (.cells #[.slice A n cap] 84)).heap.size = w.heap.size + 1 := by simp
  generalize w.alloc (.cells #[.slice A n cap] 84) = w1 at *
  have Hal := Lib.hid hal; have Hbox := Lib.hid hbox0
  have hown0 := own_zeros2 w1 n (by omega)
  rw [hsz1] at hown0
  have Hown0 := Lib.hid hown0
  have hb0 : Below (w.heap.size + 1) w1 (w1.alloc (.cells (zerosI n) 3)) := (Below.refl _ _).alloc (by omega) _
  have Hb0 := Lib.hid hb0
  clear hal hbox0 hown0 hb0 hmk
  generalize w1.alloc (.cells (zerosI n) 3) = w2 at *
  go_loopw [18] (fun k wr => ∃ a : Nat, k = .int .i64 (a : Int) ∧ a ≤ n ∧ (∀ i, i < a → 0 ≤ zs.getD i 0) ∧ wr.ownsRow (w.heap.size + 1) 3 1 (.slice (some ⟨w.heap.size + 1, 0, none⟩) n n) n ((rg n a).map VI) ∧ Below (w.heap.size + 1) w1 wr) (fun k _ => n - (intOf k).toNat)
  case atStart => exact ⟨0, rfl, by omega, fun i hi => by omega, Hown0.out, Hb0.out⟩
  case round =>
    obtain ⟨a, rfl, ha, hpos, hown, hbl⟩ := hrel
    have Hpos := Lib.hid hpos
    clear hpos
    have hbox : wr.cell? ⟨w.heap.size, 0, none⟩ = some (.slice A n cap) := by rw [cell_heap ((hbl.block _ (by omega)).trans Hbox.out)]; rfl
    have Hown := Lib.hid hown; have Hbl := Lib.hid hbl
    clear hown hbl
    by_cases hlt : a < n
    · have l1 : (a : Int) < (n : Int) := by omega
      obtain ⟨z, hz⟩ : ∃ z, zs[a]? = some z := ⟨zs[a]'(by rw [← Hn.out]; omega), List.getElem?_eq_getElem _⟩
      obtain ⟨b, off, hA, hbB, hcz⟩ := rd_get ((Hr.out.below Hal.out hB).below Hbl.out (by omega)) hz
      subst hA
      have Hza := Lib.hid (show zs.getD a 0 = z by simp [List.getD, hz])
      by_cases hz0 : z < 0
      · have HB := Lib.hid (Hal.out.trans (Hbl.out.mono (by omega)))
        clear hz
        go_wp2_with fail
        go_ret2
        exact ⟨rfl, HB.out⟩
      · have hf := Hown.out.frozenAt a
        obtain ⟨y, hy⟩ : ∃ y, (rg n a)[a]? = some y := ⟨(rg n a)[a]'(by rw [rg_length]; exact hlt), List.getElem?_eq_getElem _⟩
        have hc := Hown.out.cellAt a (by omega)
        rw [List.getElem?_map, hy] at hc
        have hc : wr.cell? ⟨w.heap.size + 1, a, none⟩ = some (.int .i64 y) := hc
        have Hp2 := Lib.hid (show ∀ i, i < a + 1 → 0 ≤ zs.getD i 0 from fun i hi => by
          by_cases h : i = a
          · subst h; rw [Hza.out]; omega
          · exact Hpos.out i (by omega))
        clear hz hy
        go_wp2_with fail
        refine ⟨⟨a + 1, by congr 1, by omega, Hp2.out, ?_, Hbl.out.trans ((Upd.setCell wr a _).below (Nat.le_refl _) (by have := Hbl.out.size; omega))⟩, by simp [intOf]; omega⟩
        rw [← rg_set n a hlt, List.map_set]
        exact (Hown.out.stored _ _).1
    · exfalso
      obtain ⟨z, h1, h2⟩ := Hz.out
      obtain ⟨i, hi, rfl⟩ := List.mem_iff_getElem.1 h1
      have := Hpos.out i (by have := Hn.out; omega)
      simp [List.getD, List.getElem?_eq_getElem hi] at this
      omega
end Go.Proofs.YtmeoafodcniliaaGreatDoor.C24
