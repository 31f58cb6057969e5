/- lists of kind 13: frames -/
import Derived.Test.YtmeoafodcniliaaGreatDoorBkB
import Derived.Test.YtmeoafodcniliaaGreatDoorInts
import Derived.Test.YtmeoafodcniliaaGreatDoorC3
import Derived.Deep.DeepCutAuto
import Derived.Deep.CutBlock
import Derived.BigQuiet
import Derived.Deep.RegionHeld3
import Derived.Deep.RegionLaw
import Derived.Test.YtmeoafodcniliaaGreatDoorBkR
namespace Go.Proofs.YtmeoafodcniliaaGreatDoor
open Go.RowKit
set_option linter.unusedSimpArgs false
set_option linter.unusedVariables false
namespace Bk
theorem info13 : (Tryz.prog.info? 74).map (fun i => (i.zero, i.size, i.bytes)) = some (some (.agg #[.int .i64 0, .slice none 0 0]), 2, 32) := by kernel_rfl
theorem infoS13 : (Tryz.prog.info? 71).map (fun i => (i.zero, i.size, i.bytes)) = some (some (.slice none 0 0), 1, 24) := by kernel_rfl
theorem desc13 : Tryz.prog.underlying 71 = some (.slice 74) := by kernel_rfl
theorem descS13 : Tryz.prog.underlying 39 = some (.slice 71) := by kernel_rfl
set_option maxRecDepth 20000 in
set_option maxHeartbeats 4000000 in
theorem show13_calls (kb : Nat) (b p id : Int) (A : Option Addr) (n cap B : Nat) (w : World) (hb : BkC w kb b p) (hn : n ≤ 2199023255552) (hc : n ≤ cap) (hcm : cap ≤ maxLen) (hB : B ≤ w.heap.size) (hr : Rd w B A (marks 13 p id n)) :
    Calls Tryz.prog 235 #[.pointer (some ⟨kb, 0, none⟩), .slice A n cap, .int .i64 id] w fun e w' => e = .returned (.bool true) ∧ Below w.heap.size w w' := by
  unfold maxLen at hcm
  have Hb := Lib.hid hb; have Hr := Lib.hid hr
  clear hb hr
  go_enter Tryz.func235, Tryz.ntmps235
  go_wp2_with fail
  go_loopw [7] (fun jv wr => ∃ j : Nat, jv = .int .i64 (j : Int) ∧ j ≤ n ∧ Below w.heap.size w wr) (fun jv _ => n - (intOf jv).toNat)
  case atStart => exact ⟨0, rfl, by omega, Below.refl _ _⟩
  case round =>
    obtain ⟨j, rfl, hj, hbl⟩ := hrel
    have Hbl := Lib.hid hbl
    clear hbl
    by_cases hlt : j < n
    · have q1 : (j : Int) < (n : Int) := by omega
      have Hbr := Lib.hid (Hb.out.below Hbl.out)
      obtain ⟨z, hz, hmk⟩ : ∃ z, mkV 13 p id (j : Int) = .agg #[.int .i64 z, .slice none 0 0] ∧ mk 13 p id j = [.int .i64 z, .slice none 0 0] := ⟨_, rfl, rfl⟩
      obtain ⟨bb, off, rfl, hbB, hcell⟩ := Hr.out (j * 2) (.int .i64 z) (by have := marks_get 13 p id n j 0 hlt (by decide); rw [hmk] at this; exact this)
      obtain ⟨b2, off2, he, _, hcell2⟩ := Hr.out (j * 2 + 1) (.slice none 0 0) (by have := marks_get 13 p id n j 1 hlt (by decide); rw [hmk] at this; exact this)
      injection he with he; injection he with e1 e2
      subst e1 e2
      rw [← Nat.add_assoc] at hcell2
      have Hz := Lib.hid hz; have Hlb := Lib.hid (Nat.lt_of_lt_of_le hbB hB)
      have Hc1 := Lib.hid hcell; have Hc2 := Lib.hid hcell2
      clear hz hmk hcell hcell2 hbB hB
      go_wp2_with (go_at_call 218; refine (mark13_calls kb p id (j : Int) wr Hbr.out.c1).mono ?_; rintro e w2 ⟨rfl, hb2⟩; rw [Hz.out]; have HbB := Lib.hid (Hbl.out.trans (hb2.mono Hbl.out.size)); clear hb2)
      have HbA := Lib.hid (HbB.out.alloc HbB.out.size (.cells #[.int .i64 z, .slice none 0 0] 74))
      have hn1 := (HbA.out.cell (p := ⟨bb, off + j * 2, none⟩) Hlb.out).trans Hc1.out
      have hn2 := (HbA.out.cell (p := ⟨bb, off + j * 2 + 1, none⟩) Hlb.out).trans Hc2.out
      have hnew : (w2.alloc (.cells #[.int .i64 z, .slice none 0 0] 74)).heap[w2.heap.size]? = some (.cells #[.int .i64 z, .slice none 0 0] 74 (0, 0)) := heap_alloc_new _ _
      have hq0 : (w2.alloc (.cells #[.int .i64 z, .slice none 0 0] 74)).cell? ⟨w2.heap.size, 0, none⟩ = some (.int .i64 z) := by rw [cell_heap hnew]; rfl
      have hq1 : (w2.alloc (.cells #[.int .i64 z, .slice none 0 0] 74)).cell? ⟨w2.heap.size, 1, none⟩ = some (.slice none 0 0) := by rw [cell_heap hnew]; rfl
      clear hnew
      generalize w2.heap.size = sb at hq0 hq1 ⊢
      generalize w2.alloc (.cells #[.int .i64 z, .slice none 0 0] 74) = w3 at *
      refine Bk.region_front2 (n := 6) (S := fun w' => (w'.cell? ⟨bb, off + j * 2, none⟩ = some (.int .i64 z) ∧ w'.cell? ⟨bb, off + j * 2 + 1, none⟩ = some (.slice none 0 0)) ∧ w'.cell? ⟨sb, 0, none⟩ = some (.int .i64 z) ∧ w'.cell? ⟨sb, 1, none⟩ = some (.slice none 0 0)) rfl rfl (by kernel_rfl) (by kernel_rfl) (by kernel_rfl) rfl (by kernel_rfl) ⟨⟨hn1, hn2⟩, hq0, hq1⟩ (fun hS0 => ?_)
      simp only [List.take_succ_cons, List.take_zero]
      refine Bk.takeD (i := 0) (some 20) (v := .slice (some ⟨bb, off, none⟩) n cap) rfl rfl (by kernel_rfl) (by kernel_rfl) (by kernel_rfl) (fun _ _ _ h => h) (Or.inl ⟨by rfl, fun w' hS => by (try dsimp only at hS); go_simp⟩) hS0 ?_
      simp only [Act.put, List.setIfInBounds_toArray, List.set_cons_zero, List.set_cons_succ]
      refine Bk.takeD (i := 1) (some 21) (v := .int .i64 (j : Int)) rfl rfl (by kernel_rfl) (by kernel_rfl) (by kernel_rfl) (fun _ _ _ h => h) (Or.inl ⟨by rfl, fun w' hS => by (try dsimp only at hS); go_simp⟩) hS0 ?_
      simp only [Act.put, List.setIfInBounds_toArray, List.set_cons_zero, List.set_cons_succ]
      refine Bk.takeD (i := 2) (some 22) (v := .pointer (some ⟨bb, off + j * 2, none⟩)) rfl rfl (by kernel_rfl) (by kernel_rfl) (by kernel_rfl) (fun _ _ _ h => h) (Or.inl ⟨by rfl, fun w' hS => by (try dsimp only at hS); go_simp⟩) hS0 ?_
      simp only [Act.put, List.setIfInBounds_toArray, List.set_cons_zero, List.set_cons_succ]
      refine Bk.takeD (i := 3) (some 23) (v := .agg #[.int .i64 z, .slice none 0 0]) rfl rfl (by kernel_rfl) (by kernel_rfl) (by kernel_rfl) (fun _ _ _ h => h) (Or.inl ⟨by rfl, fun w' hS => by (try dsimp only at hS); go_simp⟩) hS0 ?_
      simp only [Act.put, List.setIfInBounds_toArray, List.set_cons_zero, List.set_cons_succ]
      refine Bk.takeD (i := 4) (some 24) (v := .agg #[.int .i64 z, .slice none 0 0]) rfl rfl (by kernel_rfl) (by kernel_rfl) (by kernel_rfl) (fun _ _ _ h => h) (Or.inl ⟨by rfl, fun w' hS => by (try dsimp only at hS); go_simp⟩) hS0 ?_
      simp only [Act.put, List.setIfInBounds_toArray, List.set_cons_zero, List.set_cons_succ]
      refine Bk.calD (i := 5) (some 25) (by kernel_rfl) rfl rfl rfl (f := 253) (args := #[.agg #[.int .i64 z, .slice none 0 0], .agg #[.int .i64 z, .slice none 0 0]]) (by go_simp) (sameF_calls z z none none 0 0 0 0 0 0 [] [] w3.drew rfl rfl (fun _ => rfl) (fun _ => rfl) (Rd.nil _ _ _) (Rd.nil _ _ _) (Nat.zero_le _) (Nat.zero_le _)) ?_
      rintro e x1 ⟨rfl, hbx⟩
      have hb1 : Below w3.heap.size w3 x1 := (Below.refl _ _).drew.trans hbx
      rw [show (decide (([] : List (BitVec 8)) = []) && (z == z)) = true by simp]
      refine ⟨_, rfl, ⟨⟨(hb1.cell (p := ⟨bb, off + j * 2, none⟩) (cell_lt hn1)).trans hn1, (hb1.cell (p := ⟨bb, off + j * 2 + 1, none⟩) (cell_lt hn2)).trans hn2⟩, (hb1.cell (p := ⟨sb, 0, none⟩) (cell_lt hq0)).trans hq0, (hb1.cell (p := ⟨sb, 1, none⟩) (cell_lt hq1)).trans hq1⟩, fun hS1 => ?_⟩
      simp only [Act.put, List.setIfInBounds_toArray, List.set_cons_zero, List.set_cons_succ]
      refine wpAnyH_done (by kernel_rfl) ?_ _
      simp only [Bk.behind]
      have HB := Lib.hid (HbA.out.trans (hb1.mono HbA.out.size))
      clear hS0 hS1 hn1 hn2 hq0 hq1 hb1 hbx
      go_simp
      refine NoPanic.normal ?_
      go_wp2_with fail
      exact ⟨⟨j + 1, by congr 1, by omega, HB.out⟩, by simp [intOf]; omega⟩
    · obtain rfl : j = n := by omega
      go_wp2_with fail
      go_ret
      exact ⟨rfl, Hbl.out⟩
set_option maxRecDepth 20000 in
set_option maxHeartbeats 4000000 in
theorem write13_calls (kb : Nat) (b p id : Int) (vs gs : List Value) (hv hg : Value) (w : World) (hb : BkC w kb b p) (hk : KS w kb 13 vs gs hv hg) (hr : Rows w 13 vs (fun _ _ _ => True)) (ha : Apart vs) (hN : vs.length ≤ 1048576) (h0 : 0 ≤ id) (h1 : id ≤ 1099511627776) :
    Calls Tryz.prog 136 #[.pointer (some ⟨kb, 0, none⟩), .int .i64 id] w fun e w' => e = .returned (.int .i64 (id + vs.length)) ∧ Kept (InB vs) w w' ∧
      Rows w' 13 vs (fun i n xs => xs = marks 13 p (id + (i : Int) + 1) n) := by
  obtain ⟨A, C, rfl, hNC, hCm, _⟩ := own_open hk.ov
  obtain ⟨N, hNv⟩ : ∃ N, vs.length = N := ⟨_, rfl⟩
  rw [hNv] at hNC hN ⊢
  unfold maxLen at hCm
  have Hb := Lib.hid hb; have Hk := Lib.hid hk; have Hr := Lib.hid hr; have Ha := Lib.hid ha; have HN := Lib.hid hNv
  have Hnb : Hid (¬ InB vs kb) := Lib.hid (hr.notB hb)
  have Hnv : Hid (∀ g, (Value.slice A vs.length C).ownBlock = some g → ¬ InB vs g) := Lib.hid (fun g hg => hr.not hk.ov (sT_eT 13) hg)
  rw [hNv] at Hnv Hk
  clear hb hk hr ha hNv
  go_enter Tryz.func136, Tryz.ntmps136
  go_wp2_with fail
  go_loopw [1, 5] (fun idv iv wr => ∃ i : Nat, idv = .int .i64 (id + (i : Int)) ∧ iv = .int .i64 (i : Int) ∧ i ≤ N ∧ Kept (InB vs) w wr ∧ Rows wr 13 vs (fun k n xs => k < i → xs = marks 13 p (id + (k : Int) + 1) n)) (fun _ iv _ => N - (intOf iv).toNat)
  case atStart => exact ⟨0, by simp, rfl, by omega, Kept.refl _ _, Hr.out.weak (fun _ _ _ _ h => by omega)⟩
  case round =>
    obtain ⟨i, rfl, rfl, hi, hkw, hrw⟩ := hrel
    have Hkw := Lib.hid hkw; have Hrw := Lib.hid hrw
    clear hkw hrw
    have hcv := (Hkw.out.cell (o := 41) Hb.out.lt Hnb.out).trans Hk.out.cv
    by_cases hlt : i < N
    · have q1 : (i : Int) < (N : Int) := by omega
      obtain ⟨v, hv⟩ : ∃ v, vs[i]? = some v := ⟨vs[i]'(by rw [HN.out]; exact hlt), List.getElem?_eq_getElem _⟩
      obtain ⟨n, xs, hn, hown, _⟩ := Hrw.out i v hv
      obtain ⟨A1, c1, rfl, hnc, hcm⟩ := own_hdr hown
      unfold maxLen at hcm
      obtain ⟨hb0, hoff, rfl, hbl, hch⟩ := (own_rd Hk.out.ov) i _ hv
      have hhb : ¬ InB vs hb0 := Hnv.out hb0 rfl
      have hch1 := (Hkw.out.cell (o := hoff + i) hbl hhb).trans hch
      have Hv := Lib.hid hv; have Hown := Lib.hid hown; have Hbl := Lib.hid hbl; have Hhb := Lib.hid hhb; have Hcv := Lib.hid hcv; have Hch := Lib.hid hch1
      have Hmv : Hid (Value.slice A1 n c1 ∈ vs) := Lib.hid (List.mem_of_getElem? hv)
      have Hbw := Lib.hid (Hb.out.kept Hkw.out Hnb.out)
      have Hh2 : Hid (hb0 < wr.heap.size) := Lib.hid (Nat.lt_of_lt_of_le hbl Hkw.out.size)
      clear hv hown hbl hhb hch hcv hch1
      have hw1 : IntKind.i64.wrap (id + (i : Int) + 1) = id + (i : Int) + 1 := IntWalk.i64_in _ (by omega)
      generalize wr = w1 at *
      have hcv := Hcv.out
      have hch := Hch.out
      go_wp2_with fail
      go_loopw [6] (fun jv wq => ∃ (j : Nat) (ys : List Value), jv = .int .i64 (j : Int) ∧ j ≤ n ∧ Kept (fun g => (Value.slice A1 n c1).ownBlock = some g) w1 wq ∧ wq.ownsRow 0 (eT 13) (sz 13) (.slice A1 n c1) n ys ∧ ys.take (j * sz 13) = marks 13 p (id + (i : Int) + 1) j) (fun jv _ => n - (intOf jv).toNat)
      case atStart => exact ⟨0, xs, rfl, by omega, Kept.refl _ _, Hown.out, by simp [marks]⟩
      case round =>
        obtain ⟨j, ys, rfl, hj, hk2, ho2, ht2⟩ := hrel
        clear hcv hch
        have hnv2 : ∀ g, (Value.slice A1 n c1).ownBlock = some g → InB vs g := fun g hg => ⟨_, Hmv.out, hg⟩
        have hcv : wr.cell? ⟨kb, 41, none⟩ = _ := (hk2.cell Hbw.out.lt (fun h => Hnb.out (hnv2 _ h))).trans Hcv.out
        have hch : wr.cell? ⟨hb0, hoff + i, none⟩ = _ := (hk2.cell Hh2.out (fun h => Hhb.out (hnv2 _ h))).trans Hch.out
        have Hbq := Lib.hid (Hbw.out.kept hk2 (fun h => Hnb.out (hnv2 _ h)))
        by_cases hjn : j < n
        · have q2 : (j : Int) < (n : Int) := by omega
          obtain ⟨g, cc, hvv, _, _, hgl⟩ := own_some ho2 (by omega)
          injection hvv with e1 e2 e3
          subst e1
          subst e3
          have hst : (wr.cell? ⟨kb, 41, none⟩ = some (.slice (some ⟨hb0, hoff, none⟩) N C) ∧ wr.cell? ⟨hb0, hoff + i, none⟩ = some (.slice (some ⟨g, 0, none⟩) n c1) ∧ CanPut wr g (j * 2) 2) ∧ (kb ≠ g ∧ hb0 ≠ g) ∧ Kept (fun k => k = g) wr wr :=
            ⟨⟨hcv, hch, own_canPut ho2 (by rw [ho2.1]; simp only [show sz 13 = 2 from rfl]; omega)⟩, ⟨fun h => Hnb.out (h ▸ hnv2 g rfl), fun h => Hhb.out (h ▸ hnv2 g rfl)⟩, Kept.refl _ _⟩
          obtain ⟨z, hz, hmk⟩ : ∃ z, mkV 13 p (id + (i : Int) + 1) (j : Int) = .agg #[.int .i64 z, .slice none 0 0] ∧ mk 13 p (id + (i : Int) + 1) j = [.int .i64 z, .slice none 0 0] := ⟨_, rfl, rfl⟩
          have Hz := Lib.hid hz; have Hmk := Lib.hid hmk
          clear hz hmk
          have Hk2 := Lib.hid hk2; have Ho2 := Lib.hid ho2; have Ht2 := Lib.hid ht2; have Hgl := Lib.hid hgl
          clear hk2 ho2 ht2 hnv2 hgl e2
          go_wp2_with fail
          go_region_held3 (fun w' => (w'.cell? ⟨kb, 41, none⟩ = some (.slice (some ⟨hb0, hoff, none⟩) N C) ∧ w'.cell? ⟨hb0, hoff + i, none⟩ = some (.slice (some ⟨g, 0, none⟩) n c1) ∧ CanPut w' g (j * 2) 2) ∧ (kb ≠ g ∧ hb0 ≠ g) ∧ Kept (fun k => k = g) wr w')
            ((rename (_ ∧ _) ∧ (_ ∧ _) ∧ Kept _ _ _ => hS; first
              | (with_reducible exact hS)
              | (with_reducible exact hst)
              | (with_reducible exact ws_drew hS)
              | (with_reducible exact ws_set (ws_set (hS)))
              | (exact ws_below hS (by assumption))))
            ((first
              | (go_at_call 218; rename (_ ∧ _) ∧ (_ ∧ _) ∧ Kept _ _ _ => hS; refine (mark13_calls kb p _ (j : Int) _ (Hbq.out.kept hS.2.2 hS.2.1.1).c1).mono ?_; rintro e w2 ⟨rfl, hb2⟩; rw [Hz.out]; have hqf0 := (hS.1.2.2.below hb2).2 0 (by decide) |>.2; obtain ⟨x0, hqc0⟩ := Option.isSome_iff_exists.1 ((hS.1.2.2.below hb2).2 0 (by decide)).1; rw [Nat.add_zero] at hqf0 hqc0; have hqf1 := (hS.1.2.2.below hb2).2 1 (by decide) |>.2; obtain ⟨x1, hqc1⟩ := Option.isSome_iff_exists.1 ((hS.1.2.2.below hb2).2 1 (by decide)).1)))
          have hb2 : Below wr.heap.size wr w2 := ⟨hb2.os, hb2.tape, hb2.output, hb2.size, hb2.block⟩
          have hk3 := ((Kept.of_below (F := fun k => (Value.slice (some ⟨g, 0, none⟩) n c1).ownBlock = some k) (w := wr) hb2).trans (Kept.puts g [.int .i64 z, .slice none 0 0] (j * 2) w2) (fun x h => Or.inl (by rw [h]; rfl)))
          have hrow := put_next (own_below_any Ho2.out hb2) hjn Ht2.out Hmk.out (o := j * 2) (by simp [sz])
          have Hk4 := Lib.hid (Hk2.out.trans hk3 (fun x h => Or.inl h))
          obtain ⟨zs, hown4, ht4⟩ := hrow
          have Ho4 := Lib.hid hown4; have Ht4 := Lib.hid ht4
          clear hk3 hown4 ht4 hst hS hqc0 hqf0 hb2
          go_wp2_with fail
          exact ⟨⟨j + 1, zs, by congr 1, by omega, Hk4.out, Ho4.out, Ht4.out⟩, by simp [intOf]; omega⟩
        · obtain rfl : j = n := by omega
          have hfull := marks_full ho2 ht2
          have Hrn := Lib.hid (Hrw.out.next Ha.out Hv.out hn ho2 hfull hk2)
          have Hkn := Lib.hid (Hkw.out.trans hk2 (fun x h => Or.inl (hnv2 x h)))
          clear hfull ho2 ht2 hk2 hnv2
          go_wp2_with fail
          exact ⟨⟨i + 1, by congr 1; push_cast; omega, by congr 1, by omega, Hkn.out, Hrn.out⟩, by simp [intOf]; omega⟩
    · obtain rfl : i = N := by omega
      clear hcv
      have hcv := Lib.hid ((Hkw.out.cell (o := 41) Hb.out.lt Hnb.out).trans Hk.out.cv)
      have hcv := hcv.out
      go_wp2_with fail
      go_ret
      exact ⟨rfl, Hkw.out, fun k v hv => by
        obtain ⟨n, xs, h1, h2, h3⟩ := Hrw.out k v hv
        exact ⟨n, xs, h1, h2, h3 (by have := (List.getElem?_eq_some_iff.1 hv).1; rw [HN.out] at this; exact this)⟩⟩
set_option maxRecDepth 20000 in
set_option maxHeartbeats 4000000 in
theorem hold13_calls (kb : Nat) (b p id : Int) (vs gs : List Value) (hv hg : Value) (w : World) (hb : BkC w kb b p) (hk : KS w kb 13 vs gs hv hg) (hs : Shows w 13 p id vs) (hsg : Shows w 13 p id gs) (hN : vs.length ≤ 1048576) (h0 : 0 ≤ id) (h1 : id ≤ 1099511627776) :
    Calls Tryz.prog 153 #[.pointer (some ⟨kb, 0, none⟩), .int .i64 id] w fun e w' => e = .returned (.tuple #[.int .i64 (id + vs.length), .bool true]) ∧ Below w.heap.size w w' := by
  obtain ⟨A, C, rfl, hNC, hCm⟩ := own_hdr hk.ov
  obtain ⟨A2, C2, rfl, hNC2, hCm2⟩ := own_hdr hk.og
  obtain ⟨N, hNv⟩ : ∃ N, vs.length = N := ⟨_, rfl⟩
  obtain ⟨M, hMv⟩ : ∃ M, gs.length = M := ⟨_, rfl⟩
  rw [hNv] at hNC hN ⊢
  rw [hMv] at hNC2
  unfold maxLen at hCm hCm2
  rw [hNv, hMv] at hk
  have Hb := Lib.hid hb; have Hk := Lib.hid hk; have HN := Lib.hid hNv; have HM := Lib.hid hMv; have Hs := Lib.hid hs; have Hsg := Lib.hid hsg
  have Hcm := Lib.hid hCm; have Hcm2 := Lib.hid hCm2
  clear hb hk hNv hMv hs hsg
  go_enter Tryz.func153, Tryz.ntmps153
  go_wp2_with fail
  go_loopw [1, 6, 7] (fun idv av iv wr => ∃ i : Nat, idv = .int .i64 (id + (i : Int)) ∧ av = .bool true ∧ iv = .int .i64 (i : Int) ∧ i ≤ N ∧ Below w.heap.size w wr) (fun _ _ iv _ => N - (intOf iv).toNat)
  case atStart => exact ⟨0, by simp, rfl, rfl, by omega, Below.refl _ _⟩
  case round =>
    obtain ⟨i, rfl, rfl, rfl, hi, hbl⟩ := hrel
    have Hbl := Lib.hid hbl
    have Hcv := Lib.hid (hbl.cell (p := ⟨kb, 41, none⟩) Hb.out.lt |>.trans Hk.out.cv)
    have Hcg := Lib.hid (hbl.cell (p := ⟨kb, 43, none⟩) Hb.out.lt |>.trans Hk.out.cg)
    clear hbl
    have hcv := Hcv.out
    by_cases hlt : i < N
    · have q1 : (i : Int) < (N : Int) := by omega
      have hw1 : IntKind.i64.wrap (id + (i : Int) + 1) = id + (i : Int) + 1 := IntWalk.i64_in _ (by omega)
      obtain ⟨v, hv⟩ : ∃ v, vs[i]? = some v := ⟨vs[i]'(by rw [HN.out]; exact hlt), List.getElem?_eq_getElem _⟩
      obtain ⟨n, hn, A1, c1, rfl, hnc, hcm, hrd⟩ := Hs.out i v hv
      obtain ⟨hb0, hoff, rfl, hbl0, hch⟩ := (own_rd Hk.out.ov) i _ hv
      have hch := (Hbl.out.cell (p := ⟨hb0, hoff + i, none⟩) hbl0).trans hch
      have Hrd := Lib.hid hrd; have Hn := Lib.hid hn; have Hnc := Lib.hid hnc; have Hcmm := Lib.hid hcm
      have Hbw := Lib.hid (Hb.out.below Hbl.out)
      clear hrd hbl0 hv hn hnc hcm
      by_cases hgt : i < M
      · have q2 : (i : Int) < (M : Int) := by omega
        obtain ⟨v2, hv2⟩ : ∃ v, gs[i]? = some v := ⟨gs[i]'(by rw [HM.out]; exact hgt), List.getElem?_eq_getElem _⟩
        obtain ⟨n2, hn2, A3, c3, rfl, hnc3, hcm3, hrd3⟩ := Hsg.out i v2 hv2
        obtain ⟨hb3, hoff3, rfl, hbl3, hch3⟩ := (own_rd Hk.out.og) i _ hv2
        have Hrd3 := Lib.hid hrd3; have Hn3 := Lib.hid hn2; have Hnc3 := Lib.hid hnc3; have Hcm3 := Lib.hid hcm3; have Hbl3 := Lib.hid hbl3; have Hch3 := Lib.hid hch3
        clear hrd3 hbl3 hv2 hch3 hn2 hnc3 hcm3
        go_wp2_with (first
          | (go_at_call 235; have hXX := hcv; clear hXX; refine (show13_calls kb b p _ A1 n c1 w.heap.size wr Hbw.out Hn.out Hnc.out Hcmm.out Hbl.out.size (Hrd.out.below Hbl.out (Nat.le_refl _))).mono ?_; rintro e w2 ⟨rfl, hb2⟩; have Hb2 := Lib.hid (Hbl.out.trans (hb2.mono Hbl.out.size)); have hcg := (hb2.cell (p := ⟨kb, 43, none⟩) Hbw.out.lt).trans Hcg.out; have hch3 := (Hb2.out.cell (p := ⟨hb3, hoff3 + i, none⟩) Hbl3.out).trans Hch3.out; clear hb2 hcv hch)
          | (go_at_call 235; refine (show13_calls kb b p _ A3 n2 c3 w.heap.size w2 (Hb.out.below Hb2.out) Hn3.out Hnc3.out Hcm3.out Hb2.out.size (Hrd3.out.below Hb2.out (Nat.le_refl _))).mono ?_; rintro e w3 ⟨rfl, hb3⟩; have Hb3 := Lib.hid (Hb2.out.trans (hb3.mono Hb2.out.size)); clear hb3))
        exact ⟨⟨i + 1, by congr 1; push_cast; omega, rfl, by congr 1, by omega, Hb3.out⟩, by simp [intOf]; omega⟩
      · have q2 : ¬ (i : Int) < (M : Int) := by omega
        go_wp2_with (first
          | (go_at_call 235; have hXX := hcv; clear hXX; refine (show13_calls kb b p _ A1 n c1 w.heap.size wr Hbw.out Hn.out Hnc.out Hcmm.out Hbl.out.size (Hrd.out.below Hbl.out (Nat.le_refl _))).mono ?_; rintro e w2 ⟨rfl, hb2⟩; have Hb2 := Lib.hid (Hbl.out.trans (hb2.mono Hbl.out.size)); have hcg := (hb2.cell (p := ⟨kb, 43, none⟩) Hbw.out.lt).trans Hcg.out; clear hb2 hcv hch))
        exact ⟨⟨i + 1, by congr 1; push_cast; omega, rfl, by congr 1, by omega, Hb2.out⟩, by simp [intOf]; omega⟩
    · obtain rfl : i = N := by omega
      go_wp2_with fail
      go_ret2
      exact ⟨rfl, Hbl.out⟩
set_option maxRecDepth 20000 in
set_option maxHeartbeats 8000000 in
theorem grow13_calls (kb t : Nat) (b p id : Int) (vs gs : List Value) (hv hg : Value) (w : World) (ht100 : t ≤ 100) (hb : BkC w kb b p) (hk : KS w kb 13 vs gs hv hg) (hgl : gs.length = laidN t 0 vs.length) (hgr : Grown w 13 p id vs gs (fun _ => t)) (hap : Ap2 vs gs) (hN : vs.length ≤ 1048576) (h0 : 0 ≤ id) (h1 : id ≤ 1099511627776) :
    Calls Tryz.prog 170 #[.pointer (some ⟨kb, 0, none⟩), .int .i64 id, .int .i64 (t : Int)] w (GrowSaid kb 13 b p id vs gs hv hg t w) := by
  obtain ⟨i0, hi, hz0, hz1, hz2⟩ := info_parts info13
  obtain ⟨iS, hiS, hzS0, hzS1, hzS2⟩ := info_parts infoS13
  obtain ⟨A, C, rfl, hNC, hCm⟩ := own_hdr hk.ov
  obtain ⟨N, hNv⟩ : ∃ N, vs.length = N := ⟨_, rfl⟩
  have Hst0 := Lib.hid (GrowInv.start hb hk hgl hgr hap)
  rw [hNv] at hNC hN
  unfold maxLen at hCm
  have HN := Lib.hid hNv
  have Hcm := Lib.hid hCm
  have Hi := Lib.hid hi; have HiS := Lib.hid hiS
  clear hb hk hNv hgl hgr hap hCm hi hiS
  go_enter Tryz.func170, Tryz.ntmps170
  rw [HN.out] at Hst0
  go_wp2_with fail
  go_loopw [1, 7] (fun idv iv wr => ∃ i : Nat, idv = .int .i64 (id + (i : Int)) ∧ iv = .int .i64 (i : Int) ∧ i ≤ N ∧ ∃ hgi gsi, GrowInv kb 13 b p id vs gs (.slice A N C) hg t (laidN t i N) i w wr hgi gsi) (fun _ iv _ => N - (intOf iv).toNat)
  case atStart => exact ⟨0, by simp, rfl, by omega, _, _, Hst0.out⟩
  case round =>
    obtain ⟨i, rfl, rfl, hi, hgi, gsi, hinv⟩ := hrel
    have Hin := Lib.hid hinv
    have hcv := hinv.ks.cv
    clear hinv
    by_cases hlt : i < N
    · have q1 : (i : Int) < (N : Int) := by omega
      have hw1 : IntKind.i64.wrap (id + (i : Int) + 1) = id + (i : Int) + 1 := IntWalk.i64_in _ (by omega)
      by_cases htz : t = 0
      · have q2 : ((t : Int) == 0) = true := by rw [beq_iff_eq]; omega
        have Hl0 := Lib.hid (show laidN t i N = i from if_pos htz)
        have Hl2 := Lib.hid (show laidN t (i + 1) N = i + 1 from if_pos htz)
        have Htz := Lib.hid htz
        clear htz
        rw [Hl0.out] at Hin
        generalize wr = W0 at *
        obtain ⟨v, hvi⟩ : ∃ v, vs[i]? = some v := ⟨vs[i]'(by rw [HN.out]; exact hlt), List.getElem?_eq_getElem _⟩
        obtain ⟨hb0, cv0, hvv, hvc, hvcm, hvbl⟩ := own_some Hin.out.ks.ov (by rw [HN.out]; omega)
        obtain ⟨n0, hn0, hov0, _⟩ := Hin.out.gr i v hvi
        obtain ⟨A1, c1, rfl, _, _⟩ := own_hdr hov0
        injection hvv with e1 e2 e3
        subst e1
        subst e3
        have hch := own_cell Hin.out.ks.ov hvi
        obtain ⟨A2, C2, rfl, hc2, hcm2⟩ := own_hdr Hin.out.ks.og
        have hcg := Hin.out.ks.cg
        rw [Hin.out.len] at Hin hcg hc2
        have Hvi := Lib.hid hvi; have Hcg := Lib.hid hcg; have Hch := Lib.hid hch; have Hcv := Lib.hid hcv
        have Hbk := Lib.hid Hin.out.bk
        have Hov0 : Hid (W0.ownsRow 0 (sT 13) 1 (.slice (some ⟨hb0, 0, none⟩) N C) vs.length vs) := Lib.hid Hin.out.ks.ov
        have Hog0 : Hid (W0.ownsRow 0 (sT 13) 1 (.slice A2 i C2) i gsi) := Lib.hid (by have := Hin.out.ks.og; rw [Hin.out.len] at this; exact this)
        clear hvi hvc hvcm hvbl e2 hn0 hov0 hc2 hcm2
        have hA1 : ∀ O, (W0.alloc O).cell? ⟨kb, 41, none⟩ = _ := fun O => (cell_alloc_lt (w := W0) O (cell_lt hcv)).trans hcv
        have hA2 : ∀ O, (W0.alloc O).cell? ⟨hb0, i, none⟩ = _ := fun O => (cell_alloc_lt (w := W0) O (cell_lt hch)).trans hch
        have hA3 : ∀ O, (W0.alloc O).cell? ⟨kb, 43, none⟩ = _ := fun O => (cell_alloc_lt (w := W0) O (cell_lt hcg)).trans hcg
        have Hal0 := Lib.hid (show Below W0.heap.size W0 (W0.alloc (.cells #[.slice A1 n0 c1] 71)).drew from ((Below.refl W0.heap.size W0).alloc (Nat.le_refl _) _).drew)
        have Hog1 := Lib.hid (show (W0.alloc (.cells #[.slice A1 n0 c1] 71)).drew.ownsRow 0 71 1 (.slice A2 i C2) i gsi from own_below_any Hog0.out Hal0.out)
        have Hrd0 := Lib.hid (rd_alloc W0 #[.slice A1 n0 c1] 71 [.slice A1 n0 c1] rfl)
        have Hne3 := Lib.hid (show ¬ (Value.slice A2 i C2).ownBlock = some kb from Hbk.out.not Hog0.out (sT_book 13))
        have Hne4 := Lib.hid (show ¬ (Value.slice A2 i C2).ownBlock = some hb0 from fun h => (by have hsp := Hin.out.ks.sep; exact hsp hb0 rfl h))
        go_wp2_with fail
        refine Bk.region_front2 (n := 16) (S := fun w' => w'.cell? ⟨kb, 43, none⟩ = some (.slice A2 i C2) ∧ w'.cell? ⟨kb, 41, none⟩ = some (.slice (some ⟨hb0, 0, none⟩) N C) ∧ w'.cell? ⟨hb0, i, none⟩ = some (.slice A1 n0 c1)) rfl rfl (by kernel_rfl) (by kernel_rfl) (by kernel_rfl) rfl (by kernel_rfl) ⟨hcg, hcv, hch⟩ (fun hS0 => ?_)
        simp only [List.take_succ_cons, List.take_zero]
        refine Bk.takeD (i := 0) (some 22) (v := .pointer (some ⟨kb, 0, none⟩)) rfl rfl (by kernel_rfl) (by kernel_rfl) (by kernel_rfl) (fun _ _ _ h => h) (Or.inl ⟨by rfl, fun w' hS => by (try dsimp only at hS); go_simp⟩) hS0 ?_
        simp only [Act.put, List.setIfInBounds_toArray, List.set_cons_zero, List.set_cons_succ]
        refine Bk.takeD (i := 1) (some 23) (v := .pointer (some ⟨kb, 0, none⟩)) rfl rfl (by kernel_rfl) (by kernel_rfl) (by kernel_rfl) (fun _ _ _ h => h) (Or.inl ⟨by rfl, fun w' hS => by (try dsimp only at hS); go_simp⟩) hS0 ?_
        simp only [Act.put, List.setIfInBounds_toArray, List.set_cons_zero, List.set_cons_succ]
        refine Bk.takeD (i := 2) (some 24) (v := .pointer (some ⟨kb, 0, none⟩)) rfl rfl (by kernel_rfl) (by kernel_rfl) (by kernel_rfl) (fun _ _ _ h => h) (Or.inl ⟨by rfl, fun w' hS => by (try dsimp only at hS); go_simp⟩) hS0 ?_
        simp only [Act.put, List.setIfInBounds_toArray, List.set_cons_zero, List.set_cons_succ]
        refine Bk.takeD (i := 3) (some 25) (v := .pointer (some ⟨kb, 43, none⟩)) rfl rfl (by kernel_rfl) (by kernel_rfl) (by kernel_rfl) (fun _ _ _ h => h) (Or.inl ⟨by rfl, fun w' hS => by (try dsimp only at hS); go_simp⟩) hS0 ?_
        simp only [Act.put, List.setIfInBounds_toArray, List.set_cons_zero, List.set_cons_succ]
        refine Bk.takeD (i := 4) (some 26) (v := .slice A2 i C2) rfl rfl (by kernel_rfl) (by kernel_rfl) (by kernel_rfl) (fun _ _ _ h => h) (Or.inl ⟨by rfl, fun w' hS => by (try dsimp only at hS); go_simp⟩) hS0 ?_
        simp only [Act.put, List.setIfInBounds_toArray, List.set_cons_zero, List.set_cons_succ]
        refine Bk.takeD (i := 5) (some 27) (v := .pointer (some ⟨kb, 0, none⟩)) rfl rfl (by kernel_rfl) (by kernel_rfl) (by kernel_rfl) (fun _ _ _ h => h) (Or.inl ⟨by rfl, fun w' hS => by (try dsimp only at hS); go_simp⟩) hS0 ?_
        simp only [Act.put, List.setIfInBounds_toArray, List.set_cons_zero, List.set_cons_succ]
        refine Bk.takeD (i := 6) (some 28) (v := .pointer (some ⟨kb, 0, none⟩)) rfl rfl (by kernel_rfl) (by kernel_rfl) (by kernel_rfl) (fun _ _ _ h => h) (Or.inl ⟨by rfl, fun w' hS => by (try dsimp only at hS); go_simp⟩) hS0 ?_
        simp only [Act.put, List.setIfInBounds_toArray, List.set_cons_zero, List.set_cons_succ]
        refine Bk.takeD (i := 7) (some 29) (v := .pointer (some ⟨kb, 41, none⟩)) rfl rfl (by kernel_rfl) (by kernel_rfl) (by kernel_rfl) (fun _ _ _ h => h) (Or.inl ⟨by rfl, fun w' hS => by (try dsimp only at hS); go_simp⟩) hS0 ?_
        simp only [Act.put, List.setIfInBounds_toArray, List.set_cons_zero, List.set_cons_succ]
        refine Bk.takeD (i := 8) (some 30) (v := .slice (some ⟨hb0, 0, none⟩) N C) rfl rfl (by kernel_rfl) (by kernel_rfl) (by kernel_rfl) (fun _ _ _ h => h) (Or.inl ⟨by rfl, fun w' hS => by (try dsimp only at hS); go_simp⟩) hS0 ?_
        simp only [Act.put, List.setIfInBounds_toArray, List.set_cons_zero, List.set_cons_succ]
        refine Bk.takeD (i := 9) (some 31) (v := .int .i64 (i : Int)) rfl rfl (by kernel_rfl) (by kernel_rfl) (by kernel_rfl) (fun _ _ _ h => h) (Or.inl ⟨by rfl, fun w' hS => by (try dsimp only at hS); go_simp⟩) hS0 ?_
        simp only [Act.put, List.setIfInBounds_toArray, List.set_cons_zero, List.set_cons_succ]
        refine Bk.takeD (i := 10) (some 32) (v := .pointer (some ⟨hb0, i, none⟩)) rfl rfl (by kernel_rfl) (by kernel_rfl) (by kernel_rfl) (fun _ _ _ h => h) (Or.inl ⟨by rfl, fun w' hS => by (try dsimp only at hS); go_simp⟩) hS0 ?_
        simp only [Act.put, List.setIfInBounds_toArray, List.set_cons_zero, List.set_cons_succ]
        refine Bk.takeD (i := 11) (some 33) (v := .slice A1 n0 c1) rfl rfl (by kernel_rfl) (by kernel_rfl) (by kernel_rfl) (fun _ _ _ h => h) (Or.inl ⟨by rfl, fun w' hS => by (try dsimp only at hS); go_simp⟩) hS0 ?_
        simp only [Act.put, List.setIfInBounds_toArray, List.set_cons_zero, List.set_cons_succ]
        refine Bk.valD (i := 12) (some 34) (by kernel_rfl) rfl rfl rfl (v := .slice (some ⟨W0.heap.size, 0, none⟩) 1 1) (w' := (W0.alloc (.cells #[.slice A1 n0 c1] 71)).drew) (by go_simp) (⟨hA3 _, hA1 _, hA2 _⟩) (fun hS1 => ?_)
        simp only [Act.put, List.setIfInBounds_toArray, List.set_cons_zero, List.set_cons_succ]
        refine Bk.appD (i := 13) (some 35) (by kernel_rfl) rfl rfl rfl _ _ 39 rfl 71 iS _ 1 24 descS13 HiS.out hzS0 hzS1 hzS2 rfl (by decide) (.slice A2 i C2) i gsi rfl Hog1.out ⟨W0.heap.size, 0, none⟩ 1 1 _ [.slice A1 n0 c1] rfl (by decide) (by rfl) Hrd0.out (by intro u hu; simp at hu; subst hu; rfl) (by unfold maxLen; omega) (by omega) ?_
        intro v6 w6 hown6 hold6 hkept6 hblk6; obtain ⟨A6, c6, rfl, _, _⟩ := own_hdr hown6.out; have hc6 := (hkept6.out.cell (o := 41) (Nat.lt_of_lt_of_le Hbk.out.lt Hal0.out.size) Hne3.out).trans (hA1 _); have hc7 := (hkept6.out.cell (o := 43) (Nat.lt_of_lt_of_le Hbk.out.lt Hal0.out.size) Hne3.out).trans (hA3 _); have hx6 := (hkept6.out.cell (o := i) (Nat.lt_of_lt_of_le (cell_lt Hch.out) Hal0.out.size) Hne4.out).trans (hA2 _); have hf6 : w6.frozen? ⟨kb, 43, none⟩ = false := (World.frozen?_of_block (w := W0) (a := ⟨kb, 43, none⟩) ((hkept6.out.block kb (Nat.lt_of_lt_of_le Hbk.out.lt Hal0.out.size) Hne3.out).trans (Hal0.out.block kb Hbk.out.lt))).trans (Hbk.out.fz _)
        refine ⟨⟨hc7, hc6, hx6⟩, fun hS2 => ?_⟩
        simp only [Act.put, List.setIfInBounds_toArray, List.set_cons_zero, List.set_cons_succ]
        refine Bk.takeD (i := 14) (some 36) (v := .pointer (some ⟨kb, 0, none⟩)) rfl rfl (by kernel_rfl) (by kernel_rfl) (by kernel_rfl) (fun _ _ _ h => h) (Or.inl ⟨by rfl, fun w' hS => by (try dsimp only at hS); go_simp⟩) hS2 ?_
        simp only [Act.put, List.setIfInBounds_toArray, List.set_cons_zero, List.set_cons_succ]
        refine Bk.takeD (i := 15) (some 37) (v := .pointer (some ⟨kb, 43, none⟩)) rfl rfl (by kernel_rfl) (by kernel_rfl) (by kernel_rfl) (fun _ _ _ h => h) (Or.inl ⟨by rfl, fun w' hS => by (try dsimp only at hS); go_simp⟩) hS2 ?_
        simp only [Act.put, List.setIfInBounds_toArray, List.set_cons_zero, List.set_cons_succ]
        refine wpAnyH_done (by kernel_rfl) ?_ _
        simp only [Bk.behind]
        clear hS0 hS1 hS2
        go_simp
        refine NoPanic.normal ?_
        all_goals
          have HB : Hid (GrowInv kb 13 b p id vs gs (.slice (some ⟨hb0, 0, none⟩) N C) hg t (i + 1) i w (w6.setCell ⟨kb, 43, none⟩ (.slice A6 (i + 1) c6)) (.slice A6 (i + 1) c6) (gsi ++ [.slice A1 n0 c1])) := Lib.hid (Hin.out.begin_ Htz.out (by decide) Hvi.out Hal0.out hkept6.out hown6.out hblk6.out)
          clear hcv hch hcg hA1 hA2 hA3 hc6 hc7 hx6 hf6 hown6 hold6 hkept6 hblk6 Hin Hrd0 Hne3 Hne4 Hog1 Hal0 Hog0 Hov0 Hbk Hcv Hch Hcg Hvi
          generalize w6.setCell ⟨kb, 43, none⟩ (.slice A6 (i + 1) c6) = W at *
          obtain ⟨l, hl⟩ : ∃ l, l = i + 1 := ⟨_, rfl⟩
          have HlN : Hid (l ≤ vs.length) := Lib.hid (by rw [HN.out, hl]; exact hlt)
          rw [← hl] at HB
          obtain ⟨gsi, hgsi⟩ : ∃ x, x = gsi ++ [.slice A1 n0 c1] := ⟨_, rfl⟩
          rw [← hgsi] at HB
          clear hgsi
          generalize Value.slice A6 l c6 = hgi at HB
          have Hin := HB
          have hcv := Hin.out.ks.cv
          have Hl2 : Hid (laidN t (i + 1) N = l) := Lib.hid (by rw [hl]; exact Hl2.out)
          obtain ⟨v, g, n, hvi, hgi', hn, hov, hog⟩ := Hin.out.at_ (by omega) (by rw [HN.out]; exact hlt)
          clear hl HB
          obtain ⟨A3, c3, rfl, hc3, hcm3⟩ := own_hdr hog
          obtain ⟨hgb, cg, rfl, hgc, hcgm, hgbl⟩ := own_some Hin.out.ks.og (by have := (List.getElem?_eq_some_iff.1 hgi').1; omega)
          have hcg := Hin.out.ks.cg
          have hch := own_cell Hin.out.ks.og hgi'
          obtain ⟨M, hM⟩ : ∃ M, gsi.length = M := ⟨_, rfl⟩
          have HM := Lib.hid hM
          rw [hM] at hcg hgc Hin
          have q3 : (i : Int) < (M : Int) := by have := (List.getElem?_eq_some_iff.1 hgi').1; omega
          have Hcg := Lib.hid hcg; have Hch := Lib.hid hch; have Hgbl := Lib.hid hgbl
          have Hvi := Lib.hid hvi; have Hgi := Lib.hid hgi'; have Hov := Lib.hid hov; have Hog := Lib.hid hog; have Hc3 := Lib.hid hc3; have Hcm3 := Lib.hid hcm3; have Hn := Lib.hid hn; have Hbw := Lib.hid Hin.out.bk
          clear hM hvi hgi' hov hog hgbl hc3 hcm3 hn
          unfold maxLen at hcgm
          obtain ⟨m, hm⟩ : ∃ m, m = n + t := ⟨_, rfl⟩
          rw [← hm] at Hog Hc3 hch Hch Hgi
          have Hm := Lib.hid hm
          clear hm
          obtain ⟨z, hz, hmk⟩ : ∃ z, mkV 13 p (id + (i : Int) + 1) (m : Int) = .agg #[.int .i64 z, .slice none 0 0] ∧ mk 13 p (id + (i : Int) + 1) m = [.int .i64 z, .slice none 0 0] := ⟨_, rfl, rfl⟩
          have Hz := Lib.hid hz; have Hmk := Lib.hid hmk
          clear hz hmk
          go_wp2_with (go_at_call 218; refine (mark13_calls kb p _ (m : Int) W Hbw.out.c1).mono ?_; rintro e w5 ⟨rfl, hb5⟩; rw [Hz.out]; have Hb5 := Lib.hid hb5; have hcg5 := (hb5.cell (p := ⟨kb, 43, none⟩) Hbw.out.lt).trans hcg; have hch5 := (hb5.cell (p := ⟨hgb, i, none⟩) Hgbl.out).trans hch; clear hcg hch hb5)
          have Hal5 := Lib.hid (show Below w5.heap.size w5 (w5.alloc (.cells #[.int .i64 z, .slice none 0 0] 74)) from (Below.refl w5.heap.size w5).alloc (Nat.le_refl _) _)
          have hcg5 := (Hal5.out.cell (p := ⟨kb, 43, none⟩) (cell_lt hcg5)).trans hcg5
          have hch5 := (Hal5.out.cell (p := ⟨hgb, i, none⟩) (cell_lt hch5)).trans hch5
          have Hsb := Lib.hid (show W.heap.size ≤ w5.heap.size from Hb5.out.size)
          have Hb5 := Lib.hid (Hb5.out.trans (Hal5.out.mono Hb5.out.size))
          have hnew : (w5.alloc (.cells #[.int .i64 z, .slice none 0 0] 74)).heap[w5.heap.size]? = some (.cells #[.int .i64 z, .slice none 0 0] 74 (0, 0)) := heap_alloc_new _ _
          have hq0 : (w5.alloc (.cells #[.int .i64 z, .slice none 0 0] 74)).cell? ⟨w5.heap.size, 0, none⟩ = some (.int .i64 z) := by rw [cell_heap hnew]; rfl
          have hq1 : (w5.alloc (.cells #[.int .i64 z, .slice none 0 0] 74)).cell? ⟨w5.heap.size, 1, none⟩ = some (.slice none 0 0) := by rw [cell_heap hnew]; rfl
          clear hnew Hal5
          generalize w5.heap.size = sb at Hsb hq0 hq1 ⊢
          generalize w5.alloc (.cells #[.int .i64 z, .slice none 0 0] 74) = w5a at *
          have Hnsb := Lib.hid (show ¬ (Value.slice A3 m c3).ownBlock = some sb from fun h => by have := (own_blk Hog.out h).2; have := Hsb.out; omega)
          have hB0 : ∀ O, (w5a.alloc O).cell? ⟨sb, 0, none⟩ = _ := fun O => (cell_alloc_lt (w := w5a) O (cell_lt hq0)).trans hq0
          have hB1 : ∀ O, (w5a.alloc O).cell? ⟨sb, 1, none⟩ = _ := fun O => (cell_alloc_lt (w := w5a) O (cell_lt hq1)).trans hq1
          have Hs7 := Lib.hid (cell_lt hq0)
          have hA1 : ∀ O, (w5a.alloc O).cell? ⟨kb, 43, none⟩ = _ := fun O => (cell_alloc_lt (w := w5a) O (cell_lt hcg5)).trans hcg5
          have hA2 : ∀ O, (w5a.alloc O).cell? ⟨hgb, i, none⟩ = _ := fun O => (cell_alloc_lt (w := w5a) O (cell_lt hch5)).trans hch5
          have Hfz : Hid (w5a.frozen? ⟨hgb, i, none⟩ = false) := Lib.hid ((Hb5.out.frozen (p := ⟨hgb, i, none⟩) Hgbl.out).trans (own_frozen Hin.out.ks.og i))
          have Hne1 := Lib.hid (show ¬ (Value.slice A3 m c3).ownBlock = some kb from Hbw.out.not Hog.out (eT_book 13))
          have Hne2 := Lib.hid (show ¬ (Value.slice A3 m c3).ownBlock = some hgb from fun h => own_apart Hog.out Hin.out.ks.og (Ne.symm (sT_eT 13)) h rfl)
          have Hal := Lib.hid (show Below w5a.heap.size w5a (w5a.alloc (.cells #[.int .i64 z, .slice none 0 0] 74)).drew from ((Below.refl w5a.heap.size w5a).alloc (Nat.le_refl _) _).drew)
          have Hog5 := Lib.hid (show (w5a.alloc (.cells #[.int .i64 z, .slice none 0 0] 74)).drew.ownsRow 0 74 2 (.slice A3 m c3) m (marks 13 p (id + (i : Int) + 1) m) from own_below_any (own_below_any Hog.out Hb5.out) Hal.out)
          have Hrd5 := Lib.hid (rd_alloc w5a #[.int .i64 z, .slice none 0 0] 74 [.int .i64 z, .slice none 0 0] rfl)
          have Hs5 := Lib.hid (cell_lt hcg5); have Hs6 := Lib.hid (cell_lt hch5); have Hcg5 := Lib.hid hcg5; have Hch5 := Lib.hid hch5
          have Hmb := Lib.hid (show m ≤ 1099511627876 by have := Hm.out; have := Hn.out; omega)
          refine Bk.region_front2 (n := 16) (S := fun w' => w'.cell? ⟨kb, 43, none⟩ = some (.slice (some ⟨hgb, 0, none⟩) M cg) ∧ w'.cell? ⟨hgb, i, none⟩ = some (.slice A3 m c3) ∧ w'.cell? ⟨sb, 0, none⟩ = some (.int .i64 z) ∧ w'.cell? ⟨sb, 1, none⟩ = some (.slice none 0 0)) rfl rfl (by kernel_rfl) (by kernel_rfl) (by kernel_rfl) rfl (by kernel_rfl) ⟨hcg5, hch5, hq0, hq1⟩ (fun hS0 => ?_)
          simp only [List.take_succ_cons, List.take_zero]
          refine Bk.takeD (i := 0) (some 49) (v := .pointer (some ⟨kb, 0, none⟩)) rfl rfl (by kernel_rfl) (by kernel_rfl) (by kernel_rfl) (fun _ _ _ h => h) (Or.inl ⟨by rfl, fun w' hS => by (try dsimp only at hS); go_simp⟩) hS0 ?_
          simp only [Act.put, List.setIfInBounds_toArray, List.set_cons_zero, List.set_cons_succ]
          refine Bk.takeD (i := 1) (some 50) (v := .pointer (some ⟨kb, 0, none⟩)) rfl rfl (by kernel_rfl) (by kernel_rfl) (by kernel_rfl) (fun _ _ _ h => h) (Or.inl ⟨by rfl, fun w' hS => by (try dsimp only at hS); go_simp⟩) hS0 ?_
          simp only [Act.put, List.setIfInBounds_toArray, List.set_cons_zero, List.set_cons_succ]
          refine Bk.takeD (i := 2) (some 51) (v := .pointer (some ⟨kb, 43, none⟩)) rfl rfl (by kernel_rfl) (by kernel_rfl) (by kernel_rfl) (fun _ _ _ h => h) (Or.inl ⟨by rfl, fun w' hS => by (try dsimp only at hS); go_simp⟩) hS0 ?_
          simp only [Act.put, List.setIfInBounds_toArray, List.set_cons_zero, List.set_cons_succ]
          refine Bk.takeD (i := 3) (some 52) (v := .slice (some ⟨hgb, 0, none⟩) M cg) rfl rfl (by kernel_rfl) (by kernel_rfl) (by kernel_rfl) (fun _ _ _ h => h) (Or.inl ⟨by rfl, fun w' hS => by (try dsimp only at hS); go_simp⟩) hS0 ?_
          simp only [Act.put, List.setIfInBounds_toArray, List.set_cons_zero, List.set_cons_succ]
          refine Bk.takeD (i := 4) (some 53) (v := .int .i64 (i : Int)) rfl rfl (by kernel_rfl) (by kernel_rfl) (by kernel_rfl) (fun _ _ _ h => h) (Or.inl ⟨by rfl, fun w' hS => by (try dsimp only at hS); go_simp⟩) hS0 ?_
          simp only [Act.put, List.setIfInBounds_toArray, List.set_cons_zero, List.set_cons_succ]
          refine Bk.takeD (i := 5) (some 54) (v := .pointer (some ⟨kb, 0, none⟩)) rfl rfl (by kernel_rfl) (by kernel_rfl) (by kernel_rfl) (fun _ _ _ h => h) (Or.inl ⟨by rfl, fun w' hS => by (try dsimp only at hS); go_simp⟩) hS0 ?_
          simp only [Act.put, List.setIfInBounds_toArray, List.set_cons_zero, List.set_cons_succ]
          refine Bk.takeD (i := 6) (some 55) (v := .pointer (some ⟨kb, 0, none⟩)) rfl rfl (by kernel_rfl) (by kernel_rfl) (by kernel_rfl) (fun _ _ _ h => h) (Or.inl ⟨by rfl, fun w' hS => by (try dsimp only at hS); go_simp⟩) hS0 ?_
          simp only [Act.put, List.setIfInBounds_toArray, List.set_cons_zero, List.set_cons_succ]
          refine Bk.takeD (i := 7) (some 56) (v := .pointer (some ⟨kb, 43, none⟩)) rfl rfl (by kernel_rfl) (by kernel_rfl) (by kernel_rfl) (fun _ _ _ h => h) (Or.inl ⟨by rfl, fun w' hS => by (try dsimp only at hS); go_simp⟩) hS0 ?_
          simp only [Act.put, List.setIfInBounds_toArray, List.set_cons_zero, List.set_cons_succ]
          refine Bk.takeD (i := 8) (some 57) (v := .slice (some ⟨hgb, 0, none⟩) M cg) rfl rfl (by kernel_rfl) (by kernel_rfl) (by kernel_rfl) (fun _ _ _ h => h) (Or.inl ⟨by rfl, fun w' hS => by (try dsimp only at hS); go_simp⟩) hS0 ?_
          simp only [Act.put, List.setIfInBounds_toArray, List.set_cons_zero, List.set_cons_succ]
          refine Bk.takeD (i := 9) (some 58) (v := .int .i64 (i : Int)) rfl rfl (by kernel_rfl) (by kernel_rfl) (by kernel_rfl) (fun _ _ _ h => h) (Or.inl ⟨by rfl, fun w' hS => by (try dsimp only at hS); go_simp⟩) hS0 ?_
          simp only [Act.put, List.setIfInBounds_toArray, List.set_cons_zero, List.set_cons_succ]
          refine Bk.takeD (i := 10) (some 59) (v := .pointer (some ⟨hgb, i, none⟩)) rfl rfl (by kernel_rfl) (by kernel_rfl) (by kernel_rfl) (fun _ _ _ h => h) (Or.inl ⟨by rfl, fun w' hS => by (try dsimp only at hS); go_simp⟩) hS0 ?_
          simp only [Act.put, List.setIfInBounds_toArray, List.set_cons_zero, List.set_cons_succ]
          refine Bk.takeD (i := 11) (some 60) (v := .slice A3 m c3) rfl rfl (by kernel_rfl) (by kernel_rfl) (by kernel_rfl) (fun _ _ _ h => h) (Or.inl ⟨by rfl, fun w' hS => by (try dsimp only at hS); go_simp⟩) hS0 ?_
          simp only [Act.put, List.setIfInBounds_toArray, List.set_cons_zero, List.set_cons_succ]
          refine Bk.takeD (i := 12) (some 61) (v := .agg #[.int .i64 z, .slice none 0 0]) rfl rfl (by kernel_rfl) (by kernel_rfl) (by kernel_rfl) (fun _ _ _ h => h) (Or.inl ⟨by rfl, fun w' hS => by (try dsimp only at hS); go_simp⟩) hS0 ?_
          simp only [Act.put, List.setIfInBounds_toArray, List.set_cons_zero, List.set_cons_succ]
          refine Bk.valD (i := 13) (some 62) (by kernel_rfl) rfl rfl rfl (v := .slice (some ⟨w5a.heap.size, 0, none⟩) 1 1) (w' := (w5a.alloc (.cells #[.int .i64 z, .slice none 0 0] 74)).drew) (by go_simp) (⟨hA1 _, hA2 _, hB0 _, hB1 _⟩) (fun hS1 => ?_)
          simp only [Act.put, List.setIfInBounds_toArray, List.set_cons_zero, List.set_cons_succ]
          refine Bk.appD (i := 14) (some 63) (by kernel_rfl) rfl rfl rfl _ _ 71 rfl 74 i0 _ 2 32 desc13 Hi.out hz0 hz1 hz2 rfl (by decide) (.slice A3 m c3) m (marks 13 p (id + (i : Int) + 1) m) rfl Hog5.out ⟨w5a.heap.size, 0, none⟩ 1 1 _ [.int .i64 z, .slice none 0 0] rfl (by decide) (by rfl) Hrd5.out (by intro u hu; simp at hu; rcases hu with rfl | rfl <;> rfl) (by have := Hmb.out; unfold maxLen; omega) (by have := Hmb.out; omega) ?_
          intro v6 w6 hown6 hold6 hkept6 hblk6; obtain ⟨A6, c6, rfl, _, _⟩ := own_hdr hown6.out; have hc6 := (hkept6.out.cell (o := 43) (Nat.lt_of_lt_of_le Hs5.out Hal.out.size) Hne1.out).trans (hA1 _); have hx6 := (hkept6.out.cell (o := i) (Nat.lt_of_lt_of_le Hs6.out Hal.out.size) Hne2.out).trans (hA2 _); have hf6 : w6.frozen? ⟨hgb, i, none⟩ = false := (World.frozen?_of_block (w := w5a) (a := ⟨hgb, i, none⟩) ((hkept6.out.block hgb (Nat.lt_of_lt_of_le Hs6.out Hal.out.size) Hne2.out).trans (Hal.out.block hgb Hs6.out))).trans Hfz.out; have hy0 := (hkept6.out.cell (o := 0) (Nat.lt_of_lt_of_le Hs7.out Hal.out.size) Hnsb.out).trans (hB0 _); have hy1 := (hkept6.out.cell (o := 1) (Nat.lt_of_lt_of_le Hs7.out Hal.out.size) Hnsb.out).trans (hB1 _)
          refine ⟨⟨hc6, hx6, hy0, hy1⟩, fun hS2 => ?_⟩
          simp only [Act.put, List.setIfInBounds_toArray, List.set_cons_zero, List.set_cons_succ]
          refine Bk.takeD (i := 15) (some 64) (v := .pointer (some ⟨hgb, i, none⟩)) rfl rfl (by kernel_rfl) (by kernel_rfl) (by kernel_rfl) (fun _ _ _ h => h) (Or.inl ⟨by rfl, fun w' hS => by (try dsimp only at hS); go_simp⟩) hS2 ?_
          simp only [Act.put, List.setIfInBounds_toArray, List.set_cons_zero, List.set_cons_succ]
          refine wpAnyH_done (by kernel_rfl) ?_ _
          simp only [Bk.behind]
          clear hS0 hS1 hS2
          go_simp
          refine NoPanic.normal ?_
          all_goals (have HF := Lib.hid (Hin.out.step HlN.out Hvi.out Hgi.out Hn.out Hov.out Hog.out Hm.out Hb5.out Hal.out hkept6.out Hmk.out hown6.out hold6.out hblk6.out))
          all_goals (have HF2 := Lib.hid HF.out.drew)
          all_goals clear hcv hcg5 hch5 hA1 hA2 hc6 hx6 hf6 hown6 hold6 hkept6 hblk6 hq0 hB0 hy0 hq1 hB1 hy1
          all_goals go_wp2_with fail
          all_goals exact ⟨⟨i + 1, by congr 1; push_cast; omega, by congr 1, by omega, _, _, (by rw [Hl2.out]; first | exact HF.out | exact HF2.out)⟩, by simp [intOf]; omega⟩
      · have q2 : ((t : Int) == 0) = false := by rw [beq_eq_false_iff_ne]; omega
        obtain ⟨l, hl⟩ : ∃ l, laidN t i N = l := ⟨_, rfl⟩
        have hlN : l = N := by rw [← hl]; exact if_neg htz
        have Hl2 := Lib.hid (show laidN t (i + 1) N = l by rw [hlN]; exact if_neg htz)
        clear htz
        rw [hl] at Hin
        obtain ⟨v, g, n, hvi, hgi', hn, hov, hog⟩ := Hin.out.at_ (by omega) (by rw [HN.out]; exact hlt)
        have HlN : Hid (l ≤ vs.length) := Lib.hid (by rw [HN.out, hlN]; exact Nat.le_refl _)
        clear hl hlN
        generalize wr = W at *
        obtain ⟨A3, c3, rfl, hc3, hcm3⟩ := own_hdr hog
        obtain ⟨hgb, cg, rfl, hgc, hcgm, hgbl⟩ := own_some Hin.out.ks.og (by have := (List.getElem?_eq_some_iff.1 hgi').1; omega)
        have hcg := Hin.out.ks.cg
        have hch := own_cell Hin.out.ks.og hgi'
        obtain ⟨M, hM⟩ : ∃ M, gsi.length = M := ⟨_, rfl⟩
        have HM := Lib.hid hM
        rw [hM] at hcg hgc Hin
        have q3 : (i : Int) < (M : Int) := by have := (List.getElem?_eq_some_iff.1 hgi').1; omega
        have Hcg := Lib.hid hcg; have Hch := Lib.hid hch; have Hgbl := Lib.hid hgbl
        have Hvi := Lib.hid hvi; have Hgi := Lib.hid hgi'; have Hov := Lib.hid hov; have Hog := Lib.hid hog; have Hc3 := Lib.hid hc3; have Hcm3 := Lib.hid hcm3; have Hn := Lib.hid hn; have Hbw := Lib.hid Hin.out.bk
        clear hM hvi hgi' hov hog hgbl hc3 hcm3 hn
        unfold maxLen at hcgm
        obtain ⟨m, hm⟩ : ∃ m, m = n + t := ⟨_, rfl⟩
        rw [← hm] at Hog Hc3 hch Hch Hgi
        have Hm := Lib.hid hm
        clear hm
        obtain ⟨z, hz, hmk⟩ : ∃ z, mkV 13 p (id + (i : Int) + 1) (m : Int) = .agg #[.int .i64 z, .slice none 0 0] ∧ mk 13 p (id + (i : Int) + 1) m = [.int .i64 z, .slice none 0 0] := ⟨_, rfl, rfl⟩
        have Hz := Lib.hid hz; have Hmk := Lib.hid hmk
        clear hz hmk
        go_wp2_with (go_at_call 218; refine (mark13_calls kb p _ (m : Int) W Hbw.out.c1).mono ?_; rintro e w5 ⟨rfl, hb5⟩; rw [Hz.out]; have Hb5 := Lib.hid hb5; have hcg5 := (hb5.cell (p := ⟨kb, 43, none⟩) Hbw.out.lt).trans hcg; have hch5 := (hb5.cell (p := ⟨hgb, i, none⟩) Hgbl.out).trans hch; clear hcg hch hb5)
        have Hal5 := Lib.hid (show Below w5.heap.size w5 (w5.alloc (.cells #[.int .i64 z, .slice none 0 0] 74)) from (Below.refl w5.heap.size w5).alloc (Nat.le_refl _) _)
        have hcg5 := (Hal5.out.cell (p := ⟨kb, 43, none⟩) (cell_lt hcg5)).trans hcg5
        have hch5 := (Hal5.out.cell (p := ⟨hgb, i, none⟩) (cell_lt hch5)).trans hch5
        have Hsb := Lib.hid (show W.heap.size ≤ w5.heap.size from Hb5.out.size)
        have Hb5 := Lib.hid (Hb5.out.trans (Hal5.out.mono Hb5.out.size))
        have hnew : (w5.alloc (.cells #[.int .i64 z, .slice none 0 0] 74)).heap[w5.heap.size]? = some (.cells #[.int .i64 z, .slice none 0 0] 74 (0, 0)) := heap_alloc_new _ _
        have hq0 : (w5.alloc (.cells #[.int .i64 z, .slice none 0 0] 74)).cell? ⟨w5.heap.size, 0, none⟩ = some (.int .i64 z) := by rw [cell_heap hnew]; rfl
        have hq1 : (w5.alloc (.cells #[.int .i64 z, .slice none 0 0] 74)).cell? ⟨w5.heap.size, 1, none⟩ = some (.slice none 0 0) := by rw [cell_heap hnew]; rfl
        clear hnew Hal5
        generalize w5.heap.size = sb at Hsb hq0 hq1 ⊢
        generalize w5.alloc (.cells #[.int .i64 z, .slice none 0 0] 74) = w5a at *
        have Hnsb := Lib.hid (show ¬ (Value.slice A3 m c3).ownBlock = some sb from fun h => by have := (own_blk Hog.out h).2; have := Hsb.out; omega)
        have hB0 : ∀ O, (w5a.alloc O).cell? ⟨sb, 0, none⟩ = _ := fun O => (cell_alloc_lt (w := w5a) O (cell_lt hq0)).trans hq0
        have hB1 : ∀ O, (w5a.alloc O).cell? ⟨sb, 1, none⟩ = _ := fun O => (cell_alloc_lt (w := w5a) O (cell_lt hq1)).trans hq1
        have Hs7 := Lib.hid (cell_lt hq0)
        have hA1 : ∀ O, (w5a.alloc O).cell? ⟨kb, 43, none⟩ = _ := fun O => (cell_alloc_lt (w := w5a) O (cell_lt hcg5)).trans hcg5
        have hA2 : ∀ O, (w5a.alloc O).cell? ⟨hgb, i, none⟩ = _ := fun O => (cell_alloc_lt (w := w5a) O (cell_lt hch5)).trans hch5
        have Hfz : Hid (w5a.frozen? ⟨hgb, i, none⟩ = false) := Lib.hid ((Hb5.out.frozen (p := ⟨hgb, i, none⟩) Hgbl.out).trans (own_frozen Hin.out.ks.og i))
        have Hne1 := Lib.hid (show ¬ (Value.slice A3 m c3).ownBlock = some kb from Hbw.out.not Hog.out (eT_book 13))
        have Hne2 := Lib.hid (show ¬ (Value.slice A3 m c3).ownBlock = some hgb from fun h => own_apart Hog.out Hin.out.ks.og (Ne.symm (sT_eT 13)) h rfl)
        have Hal := Lib.hid (show Below w5a.heap.size w5a (w5a.alloc (.cells #[.int .i64 z, .slice none 0 0] 74)).drew from ((Below.refl w5a.heap.size w5a).alloc (Nat.le_refl _) _).drew)
        have Hog5 := Lib.hid (show (w5a.alloc (.cells #[.int .i64 z, .slice none 0 0] 74)).drew.ownsRow 0 74 2 (.slice A3 m c3) m (marks 13 p (id + (i : Int) + 1) m) from own_below_any (own_below_any Hog.out Hb5.out) Hal.out)
        have Hrd5 := Lib.hid (rd_alloc w5a #[.int .i64 z, .slice none 0 0] 74 [.int .i64 z, .slice none 0 0] rfl)
        have Hs5 := Lib.hid (cell_lt hcg5); have Hs6 := Lib.hid (cell_lt hch5); have Hcg5 := Lib.hid hcg5; have Hch5 := Lib.hid hch5
        have Hmb := Lib.hid (show m ≤ 1099511627876 by have := Hm.out; have := Hn.out; omega)
        refine Bk.region_front2 (n := 16) (S := fun w' => w'.cell? ⟨kb, 43, none⟩ = some (.slice (some ⟨hgb, 0, none⟩) M cg) ∧ w'.cell? ⟨hgb, i, none⟩ = some (.slice A3 m c3) ∧ w'.cell? ⟨sb, 0, none⟩ = some (.int .i64 z) ∧ w'.cell? ⟨sb, 1, none⟩ = some (.slice none 0 0)) rfl rfl (by kernel_rfl) (by kernel_rfl) (by kernel_rfl) rfl (by kernel_rfl) ⟨hcg5, hch5, hq0, hq1⟩ (fun hS0 => ?_)
        simp only [List.take_succ_cons, List.take_zero]
        refine Bk.takeD (i := 0) (some 49) (v := .pointer (some ⟨kb, 0, none⟩)) rfl rfl (by kernel_rfl) (by kernel_rfl) (by kernel_rfl) (fun _ _ _ h => h) (Or.inl ⟨by rfl, fun w' hS => by (try dsimp only at hS); go_simp⟩) hS0 ?_
        simp only [Act.put, List.setIfInBounds_toArray, List.set_cons_zero, List.set_cons_succ]
        refine Bk.takeD (i := 1) (some 50) (v := .pointer (some ⟨kb, 0, none⟩)) rfl rfl (by kernel_rfl) (by kernel_rfl) (by kernel_rfl) (fun _ _ _ h => h) (Or.inl ⟨by rfl, fun w' hS => by (try dsimp only at hS); go_simp⟩) hS0 ?_
        simp only [Act.put, List.setIfInBounds_toArray, List.set_cons_zero, List.set_cons_succ]
        refine Bk.takeD (i := 2) (some 51) (v := .pointer (some ⟨kb, 43, none⟩)) rfl rfl (by kernel_rfl) (by kernel_rfl) (by kernel_rfl) (fun _ _ _ h => h) (Or.inl ⟨by rfl, fun w' hS => by (try dsimp only at hS); go_simp⟩) hS0 ?_
        simp only [Act.put, List.setIfInBounds_toArray, List.set_cons_zero, List.set_cons_succ]
        refine Bk.takeD (i := 3) (some 52) (v := .slice (some ⟨hgb, 0, none⟩) M cg) rfl rfl (by kernel_rfl) (by kernel_rfl) (by kernel_rfl) (fun _ _ _ h => h) (Or.inl ⟨by rfl, fun w' hS => by (try dsimp only at hS); go_simp⟩) hS0 ?_
        simp only [Act.put, List.setIfInBounds_toArray, List.set_cons_zero, List.set_cons_succ]
        refine Bk.takeD (i := 4) (some 53) (v := .int .i64 (i : Int)) rfl rfl (by kernel_rfl) (by kernel_rfl) (by kernel_rfl) (fun _ _ _ h => h) (Or.inl ⟨by rfl, fun w' hS => by (try dsimp only at hS); go_simp⟩) hS0 ?_
        simp only [Act.put, List.setIfInBounds_toArray, List.set_cons_zero, List.set_cons_succ]
        refine Bk.takeD (i := 5) (some 54) (v := .pointer (some ⟨kb, 0, none⟩)) rfl rfl (by kernel_rfl) (by kernel_rfl) (by kernel_rfl) (fun _ _ _ h => h) (Or.inl ⟨by rfl, fun w' hS => by (try dsimp only at hS); go_simp⟩) hS0 ?_
        simp only [Act.put, List.setIfInBounds_toArray, List.set_cons_zero, List.set_cons_succ]
        refine Bk.takeD (i := 6) (some 55) (v := .pointer (some ⟨kb, 0, none⟩)) rfl rfl (by kernel_rfl) (by kernel_rfl) (by kernel_rfl) (fun _ _ _ h => h) (Or.inl ⟨by rfl, fun w' hS => by (try dsimp only at hS); go_simp⟩) hS0 ?_
        simp only [Act.put, List.setIfInBounds_toArray, List.set_cons_zero, List.set_cons_succ]
        refine Bk.takeD (i := 7) (some 56) (v := .pointer (some ⟨kb, 43, none⟩)) rfl rfl (by kernel_rfl) (by kernel_rfl) (by kernel_rfl) (fun _ _ _ h => h) (Or.inl ⟨by rfl, fun w' hS => by (try dsimp only at hS); go_simp⟩) hS0 ?_
        simp only [Act.put, List.setIfInBounds_toArray, List.set_cons_zero, List.set_cons_succ]
        refine Bk.takeD (i := 8) (some 57) (v := .slice (some ⟨hgb, 0, none⟩) M cg) rfl rfl (by kernel_rfl) (by kernel_rfl) (by kernel_rfl) (fun _ _ _ h => h) (Or.inl ⟨by rfl, fun w' hS => by (try dsimp only at hS); go_simp⟩) hS0 ?_
        simp only [Act.put, List.setIfInBounds_toArray, List.set_cons_zero, List.set_cons_succ]
        refine Bk.takeD (i := 9) (some 58) (v := .int .i64 (i : Int)) rfl rfl (by kernel_rfl) (by kernel_rfl) (by kernel_rfl) (fun _ _ _ h => h) (Or.inl ⟨by rfl, fun w' hS => by (try dsimp only at hS); go_simp⟩) hS0 ?_
        simp only [Act.put, List.setIfInBounds_toArray, List.set_cons_zero, List.set_cons_succ]
        refine Bk.takeD (i := 10) (some 59) (v := .pointer (some ⟨hgb, i, none⟩)) rfl rfl (by kernel_rfl) (by kernel_rfl) (by kernel_rfl) (fun _ _ _ h => h) (Or.inl ⟨by rfl, fun w' hS => by (try dsimp only at hS); go_simp⟩) hS0 ?_
        simp only [Act.put, List.setIfInBounds_toArray, List.set_cons_zero, List.set_cons_succ]
        refine Bk.takeD (i := 11) (some 60) (v := .slice A3 m c3) rfl rfl (by kernel_rfl) (by kernel_rfl) (by kernel_rfl) (fun _ _ _ h => h) (Or.inl ⟨by rfl, fun w' hS => by (try dsimp only at hS); go_simp⟩) hS0 ?_
        simp only [Act.put, List.setIfInBounds_toArray, List.set_cons_zero, List.set_cons_succ]
        refine Bk.takeD (i := 12) (some 61) (v := .agg #[.int .i64 z, .slice none 0 0]) rfl rfl (by kernel_rfl) (by kernel_rfl) (by kernel_rfl) (fun _ _ _ h => h) (Or.inl ⟨by rfl, fun w' hS => by (try dsimp only at hS); go_simp⟩) hS0 ?_
        simp only [Act.put, List.setIfInBounds_toArray, List.set_cons_zero, List.set_cons_succ]
        refine Bk.valD (i := 13) (some 62) (by kernel_rfl) rfl rfl rfl (v := .slice (some ⟨w5a.heap.size, 0, none⟩) 1 1) (w' := (w5a.alloc (.cells #[.int .i64 z, .slice none 0 0] 74)).drew) (by go_simp) (⟨hA1 _, hA2 _, hB0 _, hB1 _⟩) (fun hS1 => ?_)
        simp only [Act.put, List.setIfInBounds_toArray, List.set_cons_zero, List.set_cons_succ]
        refine Bk.appD (i := 14) (some 63) (by kernel_rfl) rfl rfl rfl _ _ 71 rfl 74 i0 _ 2 32 desc13 Hi.out hz0 hz1 hz2 rfl (by decide) (.slice A3 m c3) m (marks 13 p (id + (i : Int) + 1) m) rfl Hog5.out ⟨w5a.heap.size, 0, none⟩ 1 1 _ [.int .i64 z, .slice none 0 0] rfl (by decide) (by rfl) Hrd5.out (by intro u hu; simp at hu; rcases hu with rfl | rfl <;> rfl) (by have := Hmb.out; unfold maxLen; omega) (by have := Hmb.out; omega) ?_
        intro v6 w6 hown6 hold6 hkept6 hblk6; obtain ⟨A6, c6, rfl, _, _⟩ := own_hdr hown6.out; have hc6 := (hkept6.out.cell (o := 43) (Nat.lt_of_lt_of_le Hs5.out Hal.out.size) Hne1.out).trans (hA1 _); have hx6 := (hkept6.out.cell (o := i) (Nat.lt_of_lt_of_le Hs6.out Hal.out.size) Hne2.out).trans (hA2 _); have hf6 : w6.frozen? ⟨hgb, i, none⟩ = false := (World.frozen?_of_block (w := w5a) (a := ⟨hgb, i, none⟩) ((hkept6.out.block hgb (Nat.lt_of_lt_of_le Hs6.out Hal.out.size) Hne2.out).trans (Hal.out.block hgb Hs6.out))).trans Hfz.out; have hy0 := (hkept6.out.cell (o := 0) (Nat.lt_of_lt_of_le Hs7.out Hal.out.size) Hnsb.out).trans (hB0 _); have hy1 := (hkept6.out.cell (o := 1) (Nat.lt_of_lt_of_le Hs7.out Hal.out.size) Hnsb.out).trans (hB1 _)
        refine ⟨⟨hc6, hx6, hy0, hy1⟩, fun hS2 => ?_⟩
        simp only [Act.put, List.setIfInBounds_toArray, List.set_cons_zero, List.set_cons_succ]
        refine Bk.takeD (i := 15) (some 64) (v := .pointer (some ⟨hgb, i, none⟩)) rfl rfl (by kernel_rfl) (by kernel_rfl) (by kernel_rfl) (fun _ _ _ h => h) (Or.inl ⟨by rfl, fun w' hS => by (try dsimp only at hS); go_simp⟩) hS2 ?_
        simp only [Act.put, List.setIfInBounds_toArray, List.set_cons_zero, List.set_cons_succ]
        refine wpAnyH_done (by kernel_rfl) ?_ _
        simp only [Bk.behind]
        clear hS0 hS1 hS2
        go_simp
        refine NoPanic.normal ?_
        all_goals (have HF := Lib.hid (Hin.out.step HlN.out Hvi.out Hgi.out Hn.out Hov.out Hog.out Hm.out Hb5.out Hal.out hkept6.out Hmk.out hown6.out hold6.out hblk6.out))
        all_goals (have HF2 := Lib.hid HF.out.drew)
        all_goals clear hcv hcg5 hch5 hA1 hA2 hc6 hx6 hf6 hown6 hold6 hkept6 hblk6 hq0 hB0 hy0 hq1 hB1 hy1
        all_goals go_wp2_with fail
        all_goals exact ⟨⟨i + 1, by congr 1; push_cast; omega, by congr 1, by omega, _, _, (by rw [Hl2.out]; first | exact HF.out | exact HF2.out)⟩, by simp [intOf]; omega⟩
    · obtain rfl : i = N := by omega
      go_wp2_with fail
      go_ret
      exact ⟨by rw [HN.out]; rfl, hgi, gsi, by
        have := Hin.out
        rw [show laidN t i i = i by unfold laidN; split <;> rfl] at this
        rw [HN.out]; exact this⟩
/-- What a frame reads. -/
def fr2 (f : Fr) : Int × List (BitVec 8) := (f.kind, f.bs)
/-- A row of frames, by whichever payloads. -/
theorem frs_get (g : Fr → Value) : ∀ (fs : List Fr) (i : Nat) (f : Fr), fs[i]? = some f → (fs.flatMap fun f => [Value.int .i64 f.kind, g f])[i * 2]? = some (.int .i64 f.kind) ∧ (fs.flatMap fun f => [Value.int .i64 f.kind, g f])[i * 2 + 1]? = some (g f)
  | [], i, f, h => by simp at h
  | q :: fs, i, f, h => by
    have e : ((q :: fs).flatMap fun f => [Value.int .i64 f.kind, g f]) = .int .i64 q.kind :: g q :: fs.flatMap fun f => [Value.int .i64 f.kind, g f] := rfl
    rw [e]
    cases i with
    | zero => simp at h; subst h; exact ⟨rfl, rfl⟩
    | succ i =>
      simp at h
      obtain ⟨h1, h2⟩ := frs_get g fs i f h
      rw [show (i + 1) * 2 = i * 2 + 1 + 1 by omega]
      exact ⟨by simpa using h1, by simpa using h2⟩
theorem frRd_of (g : Fr → Value) {fs : List Fr} {w : World} {A : Option Addr} {n cap : Nat} (ho : w.ownsRow 0 74 2 (.slice A n cap) n (fs.flatMap fun f => [Value.int .i64 f.kind, g f])) (hg : ∀ f ∈ fs, w.ownsRow 0 5 1 (g f) f.bs.length (f.bs.map V8)) :
    FrRd w w.heap.size A (fs.map fr2) := by
  intro i k p hi
  rw [List.getElem?_map] at hi
  obtain ⟨f, h1, h2⟩ := Option.map_eq_some_iff.1 hi
  injection h2 with h2 h3
  subst h2
  subst h3
  obtain ⟨c0, c1⟩ := frs_get g fs i f h1
  obtain ⟨b, off, hA, hb, hc⟩ := own_rd ho _ _ c0
  obtain ⟨b', off', hA', _, hc'⟩ := own_rd ho _ _ c1
  rw [hA] at hA'
  injection hA' with hA'
  injection hA' with e1 e2
  subst e1 e2
  have hp := hg f (List.mem_of_getElem? h1)
  obtain ⟨A', cap', hv, hl, hm⟩ := own_hdr hp
  rw [hv] at hc' hp
  exact ⟨b, off, A', cap', hA, hb, hc, by rw [← Nat.add_assoc] at hc'; exact hc', own_nil1 hp, hl, hm, own_rd hp⟩
theorem samek13 (A A' : Option Addr) (n c c' B : Nat) (fs : List Fr) (w : World) (hb : fs.length = n) (hc : n ≤ c) (hc' : n ≤ c') (hm : c ≤ maxLen) (hm' : c' ≤ maxLen) (hr : FrRd w B A (fs.map fr2)) (hr' : FrRd w B A' (fs.map fr2)) (hB : B ≤ w.heap.size) :
    Calls Tryz.prog 201 #[.slice A n c, .slice A' n c'] w fun e w' => e = .returned (.bool true) ∧ Below w.heap.size w w' :=
  sames_calls A A' n c c' B B (fs.map fr2) w (by rw [List.length_map]; exact hb.symm) hc hc' hm hm' hr hr' hB hB
set_option maxRecDepth 20000 in
set_option maxHeartbeats 4000000 in
theorem untouched13_calls (kb : Nat) (b p : Int) (vs ws : List Value) (hv hw : Value) (U : Nat → Prop) (w : World) (hb : BkC w kb b p) (hk : KW w kb 13 vs ws hv hw) (hN : vs.length ≤ 1048576) (hl : ws.length = vs.length) (hs : ∀ (i : Nat) v, vs[i]? = some v → ∃ u, ws[i]? = some u ∧ Same 13 U w v u) :
    Calls Tryz.prog (uF 13) #[.pointer (some ⟨kb, 0, none⟩)] w fun e w' => e = .returned (.bool true) ∧ Below w.heap.size w w' := by
  obtain ⟨A, C, rfl, hNC, hCm⟩ := own_hdr hk.hvs.2
  obtain ⟨A2, C2, rfl, hNC2, hCm2⟩ := own_hdr hk.hws.2
  obtain ⟨N, hNv⟩ : ∃ N, vs.length = N := ⟨_, rfl⟩
  rw [hNv] at hNC hN hl
  rw [hl] at hNC2
  rw [hNv, hl] at hk
  unfold maxLen at hCm hCm2
  have Hb := Lib.hid hb; have Hk := Lib.hid hk; have HN := Lib.hid hNv; have Hl := Lib.hid hl; have Hs := Lib.hid hs
  have Hcm := Lib.hid hCm; have Hcm2 := Lib.hid hCm2
  clear hb hk hNv hl hs
  show Calls Tryz.prog 119 _ _ _
  go_enter Tryz.func119, Tryz.ntmps119
  go_wp2_with fail
  go_loopw [3] (fun iv wr => ∃ i : Nat, iv = .int .i64 (i : Int) ∧ i ≤ N ∧ Below w.heap.size w wr) (fun iv _ => N - (intOf iv).toNat)
  case atStart => exact ⟨0, rfl, by omega, Below.refl _ _⟩
  case round =>
    obtain ⟨i, rfl, hi, hbl⟩ := hrel
    have Hbl := Lib.hid hbl
    have hcv := (hbl.cell (p := ⟨kb, 41, none⟩) Hb.out.lt).trans Hk.out.hvs.1
    have hcw := (hbl.cell (p := ⟨kb, 42, none⟩) Hb.out.lt).trans Hk.out.hws.1
    clear hbl
    by_cases hlt : i < N
    · have q1 : (i : Int) < (N : Int) := by omega
      obtain ⟨v, hvi⟩ : ∃ v, vs[i]? = some v := ⟨vs[i]'(by rw [HN.out]; exact hlt), List.getElem?_eq_getElem _⟩
      obtain ⟨u, hui, hsame⟩ := Hs.out i v hvi
      obtain ⟨hb0, hoff, rfl, hbl0, hch⟩ := (own_rd Hk.out.hvs.2) i _ hvi
      obtain ⟨hb3, hoff3, rfl, hbl3, hch3⟩ := (own_rd Hk.out.hws.2) i _ hui
      have hch := (Hbl.out.cell (p := ⟨hb0, hoff + i, none⟩) hbl0).trans hch
      have hch3 := (Hbl.out.cell (p := ⟨hb3, hoff3 + i, none⟩) hbl3).trans hch3
      obtain ⟨_, n, xs, ys, hn, hov, hou, _, _, hcan⟩ := hsame
      obtain ⟨A4, c4, rfl, hc4, hcm4⟩ := own_hdr hov
      obtain ⟨A5, c5, rfl, hc5, hcm5⟩ := own_hdr hou
      obtain ⟨fs, hbs, rfl, rfl, hfo⟩ := hcan
      have Hf1 := Lib.hid (frRd_of (fun f => f.pv) hov (fun f hf => (hfo f hf).2.1)); have Hf2 := Lib.hid (frRd_of (fun f => f.qv) hou (fun f hf => (hfo f hf).2.2.1)); have Hbs := Lib.hid hbs; have Hn := Lib.hid hn; have Hc4 := Lib.hid hc4; have Hc5 := Lib.hid hc5; have Hm4 := Lib.hid hcm4; have Hm5 := Lib.hid hcm5
      clear hfo hov hou hbs hn hc4 hc5 hcm4 hcm5 hvi hui
      have hst : (wr.drew.cell? ⟨kb, 41, none⟩ = some (.slice (some ⟨hb0, hoff, none⟩) N C) ∧ wr.drew.cell? ⟨kb, 42, none⟩ = some (.slice (some ⟨hb3, hoff3, none⟩) N C2) ∧ wr.drew.cell? ⟨hb0, hoff + i, none⟩ = some (.slice A4 n c4) ∧ wr.drew.cell? ⟨hb3, hoff3 + i, none⟩ = some (.slice A5 n c5)) ∧ Below wr.heap.size wr wr.drew := ⟨⟨hcv, hcw, hch, hch3⟩, (Below.refl _ _).drew⟩
      go_wp2_with fail
      go_region_held3 (fun w' => (w'.cell? ⟨kb, 41, none⟩ = some (.slice (some ⟨hb0, hoff, none⟩) N C) ∧ w'.cell? ⟨kb, 42, none⟩ = some (.slice (some ⟨hb3, hoff3, none⟩) N C2) ∧ w'.cell? ⟨hb0, hoff + i, none⟩ = some (.slice A4 n c4) ∧ w'.cell? ⟨hb3, hoff3 + i, none⟩ = some (.slice A5 n c5)) ∧ Below wr.heap.size wr w')
        ((rename (_ ∧ _) ∧ Below _ _ _ => hS; first
          | (with_reducible exact hS)
          | (exact hst)
          | (exact ut_keep hS hb2)))
        ((first
          | (go_at_call 201; rename (_ ∧ _) ∧ Below _ _ _ => hS; refine (samek13 A4 A5 n c4 c5 w.heap.size fs _ Hbs.out Hc4.out Hc5.out Hm4.out Hm5.out ((Hf1.out.below Hbl.out (Nat.le_refl _)).below hS.2 Hbl.out.size) ((Hf2.out.below Hbl.out (Nat.le_refl _)).below hS.2 Hbl.out.size) (Nat.le_trans Hbl.out.size hS.2.size)).mono ?_; rintro e w2 he2; obtain ⟨rfl, hb2⟩ := he2)))
      rename (_ ∧ _) ∧ Below _ _ _ => hF
      have HF := Lib.hid (Hbl.out.trans (hF.2.mono Hbl.out.size))
      clear hF hcv hcw hch hch3 hst
      go_wp2_with fail
      exact ⟨⟨i + 1, by congr 1, by omega, HF.out⟩, by simp [intOf]; omega⟩
    · obtain rfl : i = N := by omega
      go_wp2_with fail
      go_ret
      exact ⟨rfl, Hbl.out⟩
theorem kind13 : KindOK 13 (fun _ => True) where
  untouched := fun kb b p vs ws hv hw U w _ hb hk hN hl hs => untouched13_calls kb b p vs ws hv hw U w hb hk hN hl hs
  write := fun kb b p id vs gs hv hg w _ hb hk hr ha hN h0 h1 => write13_calls kb b p id vs gs hv hg w hb hk hr ha hN h0 h1
  hold := fun kb b p id vs gs hv hg w _ hb hk hs hsg hN h0 h1 => hold13_calls kb b p id vs gs hv hg w hb hk hs hsg hN h0 h1
  grow := fun kb t b p id vs gs hv hg w _ ht hb hk hgl hgr hap hN h0 h1 => grow13_calls kb t b p id vs gs hv hg w ht hb hk hgl hgr hap hN h0 h1
end Bk
end Go.Proofs.YtmeoafodcniliaaGreatDoor
