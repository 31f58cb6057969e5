/- pithref24.Place -/
import Derived.Test.YtmeoafodcniliaaGreatDoorStI
import Derived.Test.YtmeoafodcniliaaGreatDoorBkR
import Derived.Test.YtmeoafodcniliaaGreatDoorSpC
namespace Go.Proofs.YtmeoafodcniliaaGreatDoor.C24
open Go.RowKit
set_option linter.unusedSimpArgs false
set_option linter.unusedVariables false
theorem infoSpot : (Tryz.prog.info? 119).map (fun i => (i.zero, i.size, i.bytes)) = some (some (.agg #[.int .i64 0, .int .i64 0]), 2, 16) := by kernel_rfl
theorem descSpots : Tryz.prog.underlying 113 = some (.slice 119) := by kernel_rfl
/-- Spots one behind the other. -/
def spc (ps : List (Int × Int)) : List Value := ps.flatMap fun p => [.int .i64 p.1, .int .i64 p.2]
theorem spc_length (ps : List (Int × Int)) : (spc ps).length = ps.length * 2 := by
  unfold spc; rw [List.length_flatMap]; simp
  induction ps with
  | nil => rfl
  | cons p ps ih => simp [ih]; omega
theorem spc_get {ps : List (Int × Int)} : ∀ {a : Nat} {p : Int × Int}, ps[a]? = some p → (spc ps)[a * 2]? = some (.int .i64 p.1) ∧ (spc ps)[a * 2 + 1]? = some (.int .i64 p.2) := by
  induction ps with
  | nil => intro a p h; simp at h
  | cons q ps ih =>
    intro a p h
    have e : spc (q :: ps) = .int .i64 q.1 :: .int .i64 q.2 :: spc ps := rfl
    rw [e]
    cases a with
    | zero => simp at h; subst h; exact ⟨rfl, rfl⟩
    | succ a =>
      simp at h
      obtain ⟨h1, h2⟩ := ih h
      rw [show (a + 1) * 2 = a * 2 + 1 + 1 by omega]
      exact ⟨by simpa using h1, by simpa using h2⟩
theorem spc_set {ps : List (Int × Int)} : ∀ {a : Nat} {p : Int × Int}, a < ps.length → ((spc ps).set (a * 2) (.int .i64 p.1)).set (a * 2 + 1) (.int .i64 p.2) = spc (ps.set a p) := by
  induction ps with
  | nil => intro a p h; simp at h
  | cons q ps ih =>
    intro a p h
    have e : spc (q :: ps) = .int .i64 q.1 :: .int .i64 q.2 :: spc ps := rfl
    rw [e]
    cases a with
    | zero => rfl
    | succ a =>
      rw [show (a + 1) * 2 = a * 2 + 1 + 1 by omega]
      simp only [List.set_cons_succ]
      rw [ih (by simpa using h)]; rfl
def zerosS (n : Nat) : Array Value := madeCells (Value.agg #[.int .i64 0, .int .i64 0]).cells (n * 2)
theorem zerosS_size (n : Nat) : (zerosS n).size = n * 2 := by unfold zerosS; rw [size_madeCells]
theorem make_s (c : Nat) (hc : c * 16 ≤ 140737488355328) (w : World) : (Instr.makeSlice 113 (.int .i64 (c : Int)) (.int .i64 (c : Int))).run Tryz.prog w =
    .ok (.slice (some ⟨w.heap.size, 0, none⟩) c c) (w.alloc (.cells (zerosS c) 119)) := by
  obtain ⟨i0, hi, hz0, hz1, hz2⟩ := info_parts infoSpot
  have := run_make (P := Tryz.prog) w 113 119 i0 _ descSpots hi hz0 .i64 .i64 c c (by omega) (by omega) (by rw [hz2]; omega) (by omega)
  rw [this, hz1]; rfl
/-- What the document's places are, k of them laid. -/
def Sp.ps (T : List Int) (n : Nat) : Nat → List (Int × Int)
  | 0 => List.replicate n (0, 0)
  | k + 1 => (Sp.ps T n k).set (T.getD k 0).toNat (Sp.spot k)
theorem Sp.ps_length (T : List Int) (n : Nat) : ∀ k, (Sp.ps T n k).length = n
  | 0 => by unfold Sp.ps; simp
  | k + 1 => by unfold Sp.ps; rw [List.length_set]; exact Sp.ps_length T n k
theorem Sp.pl_ps (T : List Int) (n : Nat) : ∀ k, Sp.pl T n k = (Sp.ps T n k).map fun p => (fv p.1, fv p.2)
  | 0 => by unfold Sp.pl Sp.ps; rw [List.map_replicate]; rfl
  | k + 1 => by unfold Sp.pl Sp.ps; rw [Sp.pl_ps T n k, List.map_set]
theorem zerosS_eq (n : Nat) : (zerosS n).toList = spc (List.replicate n (0, 0)) := by
  have e1 : (zerosS n).toList = List.replicate (n * 2) (.int .i64 0) := by
    unfold zerosS
    rw [show (Value.agg #[.int .i64 0, .int .i64 0]).cells = #[.int .i64 0, .int .i64 0] from rfl]
    apply List.ext_getElem?
    intro j
    by_cases hj : j < n * 2
    · have h2 : j % 2 = 0 ∨ j % 2 = 1 := by omega
      rcases h2 with h | h <;> simp [madeCells, hj, h]
    · simp [madeCells, hj]
  have e2 : ∀ m, spc (List.replicate m (0, 0)) = List.replicate (m * 2) (.int .i64 0) := by
    intro m
    induction m with
    | zero => rfl
    | succ m ih =>
      rw [List.replicate_succ, show (m + 1) * 2 = m * 2 + 1 + 1 by omega, List.replicate_succ, List.replicate_succ, ← ih]; rfl
  rw [e1, e2]
theorem own_zerosS (w : World) (n : Nat) (hn : n ≤ 16777216) : (w.alloc (.cells (zerosS n) 119)).ownsRow w.heap.size 119 2 (.slice (some ⟨w.heap.size, 0, none⟩) n n) n (spc (List.replicate n (0, 0))) := by
  refine ⟨by rw [spc_length, List.length_replicate], Or.inr ⟨w.heap.size, n, zerosS n, rfl, Nat.le_refl _, heap_alloc_new _ _, Nat.le_refl _, by unfold maxLen; omega, by rw [zerosS_size], ?_⟩⟩
  rw [zerosS_eq, List.take_of_length_le (by rw [spc_length, List.length_replicate]; exact Nat.le_refl _)]
set_option maxHeartbeats 8000000 in
set_option maxRecDepth 20000 in
theorem RPlace_neg (A : Option Addr) (n cap B : Nat) (zs : List Int) (w : World) (hn : n = zs.length) (hm : n ≤ 1000000) (hz : ∃ z ∈ zs, z < 0) (hB : B ≤ w.heap.size) (hr : Rd w B A (zs.map VI)) :
    Calls Tryz.prog 54 #[.slice A n cap] w fun e w' => e = .returned (.tuple #[.slice none 0 0, .int .i64 240]) ∧ w = w' := by
  have Hn := Lib.hid hn; have Hr := Lib.hid hr; have Hz := Lib.hid hz
  clear hn hr hz
  go_enter Tryz.func54, Tryz.ntmps54
  go_wp2_with fail
  go_loopw [4] (fun k wr => ∃ a : Nat, k = .int .i64 (a : Int) ∧ a ≤ n ∧ (∀ i, i < a → 0 ≤ zs.getD i 0) ∧ w = wr) (fun k _ => n - (intOf k).toNat)
  case atStart => exact ⟨0, rfl, by omega, fun i hi => by omega, rfl⟩
  case round =>
    obtain ⟨a, rfl, ha, hpos, rfl⟩ := hrel
    have Hpos := Lib.hid hpos
    clear hpos
    by_cases hlt : a < n
    · have l1 : (a : Int) < (n : Int) := by omega
      obtain ⟨z, hz⟩ : ∃ z, zs[a]? = some z := ⟨zs[a]'(by rw [← Hn.out]; omega), List.getElem?_eq_getElem _⟩
      obtain ⟨b, off, hA, hbB, hcz⟩ := rd_get Hr.out hz
      subst hA
      have Hza := Lib.hid (show zs.getD a 0 = z by simp [List.getD, hz])
      by_cases hz0 : z < 0
      · clear hz
        go_wp2_with fail
        go_ret2
        exact ⟨rfl, rfl⟩
      · have Hp2 := Lib.hid (show ∀ i, i < a + 1 → 0 ≤ zs.getD i 0 from fun i hi => by
          by_cases h : i = a
          · subst h; rw [Hza.out]; omega
          · exact Hpos.out i (by omega))
        clear hz
        go_wp2_with fail
        exact ⟨⟨a + 1, by congr 1, by omega, Hp2.out, by trivial⟩, by simp [intOf]; omega⟩
    · exfalso
      obtain ⟨z, h1, h2⟩ := Hz.out
      obtain ⟨i, hi, rfl⟩ := List.mem_iff_getElem.1 h1
      have := Hpos.out i (by have := Hn.out; omega)
      simp [List.getD, List.getElem?_eq_getElem hi] at this
      omega
set_option maxHeartbeats 8000000 in
set_option maxRecDepth 20000 in
theorem RPlace_calls (A : Option Addr) (n cap B : Nat) (zs : List Int) (w : World) (hn : n = zs.length) (hm : n ≤ 1000000) (hz : ∀ z ∈ zs, 0 ≤ z) (hB : B ≤ w.heap.size) (hr : Rd w B A (zs.map VI)) :
    Calls Tryz.prog 54 #[.slice A n cap] w fun e w' => ∃ (T : List Int) (A' : Option Addr) (cap' : Nat), St.IsOrd zs n T ∧ e = .returned (.tuple #[.slice A' n cap', .int .i64 0]) ∧
      w'.ownsRow w.heap.size 119 2 (.slice A' n cap') n (spc (Sp.ps T n n)) ∧ Below w.heap.size w w' := by
  have hmk := make_s n (by omega)
  have Hn := Lib.hid hn; have Hr := Lib.hid hr; have Hz := Lib.hid hz
  clear hn hr hz
  go_enter Tryz.func54, Tryz.ntmps54
  go_wp2_with fail
  go_loopw [4] (fun k wr => ∃ a : Nat, k = .int .i64 (a : Int) ∧ a ≤ n ∧ w = wr) (fun k _ => n - (intOf k).toNat)
  case atStart => exact ⟨0, rfl, by omega, rfl⟩
  case round =>
    obtain ⟨a, rfl, ha, rfl⟩ := hrel
    by_cases hlt : a < n
    · have l1 : (a : Int) < (n : Int) := by omega
      obtain ⟨z, hz⟩ : ∃ z, zs[a]? = some z := ⟨zs[a]'(by rw [← Hn.out]; omega), List.getElem?_eq_getElem _⟩
      obtain ⟨b, off, hA, hbB, hcz⟩ := rd_get Hr.out hz
      subst hA
      have hz0 : ¬ z < 0 := by have := Hz.out z (List.mem_of_getElem? hz); omega
      clear hz
      go_wp2_with fail
      exact ⟨⟨a + 1, by congr 1, by omega, by trivial⟩, by simp [intOf]; omega⟩
    · obtain rfl : a = n := by omega
      clear hlt ha
      go_wp2_with fail
      have Hown0 := Lib.hid (own_zerosS w a (by omega))
      have Hb0 := Lib.hid (show Below w.heap.size w (w.alloc (.cells (zerosS a) 119)) from (Below.refl _ _).alloc (Nat.le_refl _) _)
      obtain ⟨g, hg⟩ : ∃ g, g = w.heap.size := ⟨_, rfl⟩
      have Hs0 := Lib.hid (show g + 1 ≤ (w.alloc (.cells (zerosS a) 119)).heap.size by rw [hg]; simp)
      rw [← hg] at Hown0 ⊢
      have Hg := Lib.hid hg
      generalize w.alloc (.cells (zerosS a) 119) = w1 at *
      clear hmk hg
      refine (Order_calls A a cap B zs w1 Hn.out hm Hz.out (Nat.le_trans hB Hb0.out.size) (Hr.out.below Hb0.out hB)).mono ?_
      rintro e w2 ⟨T, A2, cap2, hT, rfl, hown, hb⟩
      have HT := Lib.hid hT
      have Hown1 := Lib.hid (Bk.own_below_any Hown0.out hb)
      have Hownt := Lib.hid hown
      have Hb2 := Lib.hid (Hb0.out.trans (hb.mono Hb0.out.size))
      have Hw1 := Lib.hid (show g + 1 ≤ w2.heap.size from Nat.le_trans Hs0.out hb.size)
      have hcap := Bk.own_caps hown
      have Hcap := Lib.hid hcap
      clear hT hown hb Hown0 Hb0 hcap
      go_wp2_with fail
      go_loopw [7] (fun kv wr => ∃ q : Nat, kv = .int .i64 (q : Int) ∧ q ≤ a ∧ wr.ownsRow g 119 2 (.slice (some ⟨g, 0, none⟩) a a) a (spc (Sp.ps T a q)) ∧ wr.ownsRow w1.heap.size 3 1 (.slice A2 a cap2) a (T.map VI) ∧ Below w.heap.size w wr) (fun kv _ => a - (intOf kv).toNat)
      case atStart => exact ⟨0, rfl, by omega, Hown1.out, Hownt.out, Hb2.out⟩
      case round =>
        obtain ⟨q, rfl, hq, hoc, hot, hbl⟩ := hrel
        have Hoc := Lib.hid hoc; have Hot := Lib.hid hot; have Hbl := Lib.hid hbl
        clear hoc hot hbl
        by_cases hlt : q < a
        · have l1 : (q : Int) < (a : Int) := by omega
          obtain ⟨t, ht, hTq⟩ : ∃ t : Nat, t < a ∧ T[q]? = some (t : Int) := by
            have hql : q < T.length := by rw [HT.out.len]; exact hlt
            obtain ⟨t, ht, he⟩ := HT.out.mem (T[q]'hql) (List.getElem_mem _)
            exact ⟨t, ht, by rw [List.getElem?_eq_getElem hql, he]⟩
          obtain ⟨gt, c2, hv, _, _, hgt⟩ := Bk.own_some Hot.out (by omega)
          injection hv with e1 e2 e3
          subst e1
          have cT := Bk.own_cell Hot.out (k := q) (u := .int .i64 (t : Int)) (by rw [List.getElem?_map, hTq]; rfl)
          have t1 : (t : Int) < (a : Int) := by omega
          have hlen : (Sp.ps T a q).length = a := Sp.ps_length T a q
          have Hset := Lib.hid (show ((spc (Sp.ps T a q)).set (t * 2) (.int .i64 (Sp.spot q).1)).set (t * 2 + 1) (.int .i64 (Sp.spot q).2) = spc (Sp.ps T a (q + 1)) by
            rw [spc_set (by omega), Sp.ps]; congr 2; simp [List.getD, hTq])
          have hne : gt ≠ g := fun he => by subst he; exact Bk.own_apart Hot.out Hoc.out (by decide) rfl rfl
          have Hne := Lib.hid hne; have Hgt := Lib.hid hgt; have HcT := Lib.hid cT; have Hlt := Lib.hid hlt; have Ht := Lib.hid ht; have Hlen := Lib.hid hlen
          clear e2 e3 hne hgt hlt ht hlen hTq
          go_wp2_with fail
          refine Bk.region_front2 (n := 8) (S := fun w' => w'.cell? ⟨gt, q, none⟩ = some (.int .i64 (t : Int)) ∧ True) rfl rfl (by kernel_rfl) (by kernel_rfl) (by kernel_rfl) rfl (by kernel_rfl) ⟨cT, trivial⟩ (fun hS0 => ?_)
          simp only [List.take_succ_cons, List.take_zero]
          refine Bk.takeD (i := 0) (some 33) (v := .slice (some ⟨g, 0, none⟩) a a) rfl rfl (by kernel_rfl) (by kernel_rfl) (by kernel_rfl) (fun _ _ _ h => h) (Or.inl ⟨by rfl, fun w' hS => by (try dsimp only at hS); go_simp⟩) hS0 ?_
          simp only [Act.put, List.setIfInBounds_toArray, List.set_cons_zero, List.set_cons_succ]
          refine Bk.takeD (i := 1) (some 34) (v := .slice (some ⟨gt, 0, none⟩) a cap2) rfl rfl (by kernel_rfl) (by kernel_rfl) (by kernel_rfl) (fun _ _ _ h => h) (Or.inl ⟨by rfl, fun w' hS => by (try dsimp only at hS); go_simp⟩) hS0 ?_
          simp only [Act.put, List.setIfInBounds_toArray, List.set_cons_zero, List.set_cons_succ]
          refine Bk.takeD (i := 2) (some 35) (v := .int .i64 (q : Int)) rfl rfl (by kernel_rfl) (by kernel_rfl) (by kernel_rfl) (fun _ _ _ h => h) (Or.inl ⟨by rfl, fun w' hS => by (try dsimp only at hS); go_simp⟩) hS0 ?_
          simp only [Act.put, List.setIfInBounds_toArray, List.set_cons_zero, List.set_cons_succ]
          refine Bk.takeD (i := 3) (some 36) (v := .pointer (some ⟨gt, q, none⟩)) rfl rfl (by kernel_rfl) (by kernel_rfl) (by kernel_rfl) (fun _ _ _ h => h) (Or.inl ⟨by rfl, fun w' hS => by (try dsimp only at hS); go_simp⟩) hS0 ?_
          simp only [Act.put, List.setIfInBounds_toArray, List.set_cons_zero, List.set_cons_succ]
          refine Bk.takeD (i := 4) (some 37) (v := .int .i64 (t : Int)) rfl rfl (by kernel_rfl) (by kernel_rfl) (by kernel_rfl) (fun _ _ _ h => h) (Or.inl ⟨by rfl, fun w' hS => by (try dsimp only at hS); go_simp⟩) hS0 ?_
          simp only [Act.put, List.setIfInBounds_toArray, List.set_cons_zero, List.set_cons_succ]
          refine Bk.takeD (i := 5) (some 38) (v := .int .i64 (q : Int)) rfl rfl (by kernel_rfl) (by kernel_rfl) (by kernel_rfl) (fun _ _ _ h => h) (Or.inl ⟨by rfl, fun w' hS => by (try dsimp only at hS); go_simp⟩) hS0 ?_
          simp only [Act.put, List.setIfInBounds_toArray, List.set_cons_zero, List.set_cons_succ]
          refine Bk.calD (i := 6) (some 39) (by kernel_rfl) rfl rfl rfl (f := 100) (args := #[.int .i64 (q : Int)]) (by go_simp) (Walk_calls q (by have := Hlt.out; omega) wr.drew) ?_
          rintro e x1 ⟨rfl, hbx⟩
          have hb1 : Below wr.heap.size wr x1 := (Below.refl _ _).drew.trans hbx
          have cT1 := (hb1.cell (p := ⟨gt, q, none⟩) Hgt.out).trans cT
          refine ⟨_, rfl, ⟨cT1, trivial⟩, fun hS1 => ?_⟩
          simp only [Act.put, List.setIfInBounds_toArray, List.set_cons_zero, List.set_cons_succ]
          refine Bk.takeD (i := 7) (some 40) (v := .pointer (some ⟨g, t * 2, none⟩)) rfl rfl (by kernel_rfl) (by kernel_rfl) (by kernel_rfl) (fun _ _ _ h => h) (Or.inl ⟨by rfl, fun w' hS => by (try dsimp only at hS); go_simp⟩) hS1 ?_
          simp only [Act.put, List.setIfInBounds_toArray, List.set_cons_zero, List.set_cons_succ]
          have hoc1 := Bk.own_below_any Hoc.out hb1
          have hot1 := Bk.own_below_any Hot.out hb1
          obtain ⟨p1, hp1⟩ : ∃ p, (Sp.ps T a q)[t]? = some p := ⟨(Sp.ps T a q)[t]'(by rw [Hlen.out]; exact Ht.out), List.getElem?_eq_getElem _⟩
          obtain ⟨s1, s2⟩ := spc_get hp1
          have hqc0 := Bk.own_cell hoc1 s1
          have hqc1 := Bk.own_cell hoc1 s2
          have hqf0 := Bk.own_frozen hoc1 (t * 2)
          have hqf1 := Bk.own_frozen hoc1 (t * 2 + 1)
          have HB1 := Lib.hid (Hbl.out.trans (hb1.mono Hbl.out.size))
          have Hoc1 := Lib.hid hoc1; have Hot1 := Lib.hid hot1
          clear s1 s2 hp1 hoc1 hot1 hb1 hbx
          generalize Sp.spot q = sp at *
          refine wpAnyH_done (by kernel_rfl) ?_ _
          simp only [Bk.behind]
          clear hS0 hS1 cT cT1
          go_simp
          refine NoPanic.normal ?_
          have hlen2 : (spc (Sp.ps T a q)).length = a * 2 := by rw [spc_length, Hlen.out]
          have ho2 := Bk.own_set (Bk.own_set Hoc1.out (j := t * 2) (by have := Ht.out; omega) (.int .i64 sp.1)) (j := t * 2 + 1) (by rw [List.length_set]; have := Ht.out; omega) (.int .i64 sp.2)
          rw [Hset.out] at ho2
          have HF := Lib.hid ho2
          have HT2 := Lib.hid (Bk.own_kept (Bk.own_kept Hot1.out (Bk.Kept.set x1 g (t * 2) (.int .i64 sp.1)) (fun x hx he => by subst he; injection hx with hx; exact Hne.out hx)) (Bk.Kept.set _ g (t * 2 + 1) (.int .i64 sp.2)) (fun x hx he => by subst he; injection hx with hx; exact Hne.out hx))
          have HB2 := Lib.hid ((HB1.out.trans ((Upd.setCell (g := g) x1 (t * 2) (.int .i64 sp.1)).below (B := w.heap.size) (by have := Hg.out; omega) HB1.out.size)).trans ((Upd.setCell (g := g) (x1.setCell ⟨g, t * 2, none⟩ (.int .i64 sp.1)) (t * 2 + 1) (.int .i64 sp.2)).below (B := w.heap.size) (by have := Hg.out; omega) (Nat.le_trans HB1.out.size (Upd.setCell (g := g) x1 (t * 2) (.int .i64 sp.1)).size)))
          clear ho2 hqc0 hqc1 hqf0 hqf1 hlen2 HB1 Hoc1 Hot1 Hset
          go_wp2_with fail
          exact ⟨⟨q + 1, by congr 1, by have := Hlt.out; omega, HF.out, HT2.out, HB2.out⟩, by simp [intOf]; have := Hlt.out; omega⟩
        · obtain rfl : q = a := by omega
          go_wp2_with fail
          go_ret2
          exact ⟨T, some ⟨g, 0, none⟩, q, HT.out, rfl, Bk.own_base Hoc.out (by have := Hg.out; omega), Hbl.out⟩
end Go.Proofs.YtmeoafodcniliaaGreatDoor.C24
