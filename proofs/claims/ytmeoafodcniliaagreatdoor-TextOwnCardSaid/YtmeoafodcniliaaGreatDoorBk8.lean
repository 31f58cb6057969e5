/- lists of kind 8: changes -/
import Derived.Test.YtmeoafodcniliaaGreatDoorBkB
import Derived.Test.YtmeoafodcniliaaGreatDoorInts
import Derived.Test.YtmeoafodcniliaaGreatDoorC4a
import Derived.Deep.DeepCutAuto
import Derived.Deep.CutBlock
import Derived.BigQuiet
import Derived.Deep.RegionHeld3
import Derived.Deep.RegionLaw
import Derived.Test.YtmeoafodcniliaaGreatDoorBkR
namespace Go.Proofs.YtmeoafodcniliaaGreatDoor
open Go.RowKit
set_option linter.unusedSimpArgs false
set_option linter.unusedVariables false
namespace Bk
theorem info8 : (Tryz.prog.info? 130).map (fun i => (i.zero, i.size, i.bytes)) = some (some (.agg #[.int .i64 0, .int .i64 0, .bool false]), 3, 24) := by kernel_rfl
theorem infoS8 : (Tryz.prog.info? 54).map (fun i => (i.zero, i.size, i.bytes)) = some (some (.slice none 0 0), 1, 24) := by kernel_rfl
theorem desc8 : Tryz.prog.underlying 54 = some (.slice 130) := by kernel_rfl
theorem descS8 : Tryz.prog.underlying 34 = some (.slice 54) := by kernel_rfl
set_option maxRecDepth 20000 in
set_option maxHeartbeats 4000000 in
theorem show8_calls (kb : Nat) (b p id : Int) (A : Option Addr) (n cap B : Nat) (w : World) (hb : BkC w kb b p) (hn : n ≤ 2199023255552) (hc : n ≤ cap) (hcm : cap ≤ maxLen) (hB : B ≤ w.heap.size) (hr : Rd w B A (marks 8 p id n)) :
    Calls Tryz.prog 230 #[.pointer (some ⟨kb, 0, none⟩), .slice A n cap, .int .i64 id] w fun e w' => e = .returned (.bool true) ∧ Below w.heap.size w w' := by
  unfold maxLen at hcm
  have Hb := Lib.hid hb; have Hr := Lib.hid hr
  clear hb hr
  go_enter Tryz.func230, Tryz.ntmps230
  go_wp2_with fail
  go_loopw [7] (fun jv wr => ∃ j : Nat, jv = .int .i64 (j : Int) ∧ j ≤ n ∧ Below w.heap.size w wr) (fun jv _ => n - (intOf jv).toNat)
  case atStart => exact ⟨0, rfl, by omega, Below.refl _ _⟩
  case round =>
    obtain ⟨j, rfl, hj, hbl⟩ := hrel
    have Hbl := Lib.hid hbl
    clear hbl
    by_cases hlt : j < n
    · have q1 : (j : Int) < (n : Int) := by omega
      have Hbr := Lib.hid (Hb.out.below Hbl.out)
      obtain ⟨y, z, hz, hmk⟩ : ∃ y z, mkV 8 p id (j : Int) = .agg #[.int .i64 y, .int .i64 z, .bool false] ∧ mk 8 p id j = [.int .i64 y, .int .i64 z, .bool false] := ⟨_, _, rfl, rfl⟩
      obtain ⟨bb, off, rfl, hbB, hcell⟩ := Hr.out (j * 3) (.int .i64 y) (by have := marks_get 8 p id n j 0 hlt (by decide); rw [hmk] at this; exact this)
      obtain ⟨b2, off2, he, _, hcell2⟩ := Hr.out (j * 3 + 1) (.int .i64 z) (by have := marks_get 8 p id n j 1 hlt (by decide); rw [hmk] at this; exact this)
      injection he with he; injection he with e1 e2
      subst e1 e2
      rw [← Nat.add_assoc] at hcell2
      have Hz := Lib.hid hz; have Hlb := Lib.hid (Nat.lt_of_lt_of_le hbB hB)
      have Hc1 := Lib.hid hcell; have Hc2 := Lib.hid hcell2
      clear hz hmk hcell hcell2 hbB hB
      go_wp2_with (go_at_call 213; refine (mark8_calls kb p id (j : Int) wr Hbr.out.c1).mono ?_; rintro e w2 ⟨rfl, hb2⟩; rw [Hz.out]; have HbB := Lib.hid (Hbl.out.trans (hb2.mono Hbl.out.size)); have HbA := Lib.hid (show ∀ O, Below w.heap.size w (w2.alloc O) from fun O => HbB.out.alloc HbB.out.size O); have hn1 : ∀ O, (w2.alloc O).cell? ⟨bb, off + j * 3, none⟩ = some (.int .i64 y) := fun O => ((HbA.out O).cell (p := ⟨bb, off + j * 3, none⟩) Hlb.out).trans Hc1.out; have hn2 : ∀ O, (w2.alloc O).cell? ⟨bb, off + j * 3 + 1, none⟩ = some (.int .i64 z) := fun O => ((HbA.out O).cell (p := ⟨bb, off + j * 3 + 1, none⟩) Hlb.out).trans Hc2.out; clear hb2)
      go_big_quiet (fail)
      go_wp2_with fail
      exact ⟨⟨j + 1, by congr 1, by omega, below_drewN (HbA.out _) _⟩, by simp [intOf]; omega⟩
    · obtain rfl : j = n := by omega
      go_wp2_with fail
      go_ret
      exact ⟨rfl, Hbl.out⟩
set_option maxRecDepth 20000 in
set_option maxHeartbeats 4000000 in
theorem write8_calls (kb : Nat) (b p id : Int) (vs gs : List Value) (hv hg : Value) (w : World) (hb : BkC w kb b p) (hk : KS w kb 8 vs gs hv hg) (hr : Rows w 8 vs (fun _ _ _ => True)) (ha : Apart vs) (hN : vs.length ≤ 1048576) (h0 : 0 ≤ id) (h1 : id ≤ 1099511627776) :
    Calls Tryz.prog 131 #[.pointer (some ⟨kb, 0, none⟩), .int .i64 id] w fun e w' => e = .returned (.int .i64 (id + vs.length)) ∧ Kept (InB vs) w w' ∧
      Rows w' 8 vs (fun i n xs => xs = marks 8 p (id + (i : Int) + 1) n) := by
  obtain ⟨A, C, rfl, hNC, hCm, _⟩ := own_open hk.ov
  obtain ⟨N, hNv⟩ : ∃ N, vs.length = N := ⟨_, rfl⟩
  rw [hNv] at hNC hN ⊢
  unfold maxLen at hCm
  have Hb := Lib.hid hb; have Hk := Lib.hid hk; have Hr := Lib.hid hr; have Ha := Lib.hid ha; have HN := Lib.hid hNv
  have Hnb : Hid (¬ InB vs kb) := Lib.hid (hr.notB hb)
  have Hnv : Hid (∀ g, (Value.slice A vs.length C).ownBlock = some g → ¬ InB vs g) := Lib.hid (fun g hg => hr.not hk.ov (sT_eT 8) hg)
  rw [hNv] at Hnv Hk
  clear hb hk hr ha hNv
  go_enter Tryz.func131, Tryz.ntmps131
  go_wp2_with fail
  go_loopw [1, 5] (fun idv iv wr => ∃ i : Nat, idv = .int .i64 (id + (i : Int)) ∧ iv = .int .i64 (i : Int) ∧ i ≤ N ∧ Kept (InB vs) w wr ∧ Rows wr 8 vs (fun k n xs => k < i → xs = marks 8 p (id + (k : Int) + 1) n)) (fun _ iv _ => N - (intOf iv).toNat)
  case atStart => exact ⟨0, by simp, rfl, by omega, Kept.refl _ _, Hr.out.weak (fun _ _ _ _ h => by omega)⟩
  case round =>
    obtain ⟨i, rfl, rfl, hi, hkw, hrw⟩ := hrel
    have Hkw := Lib.hid hkw; have Hrw := Lib.hid hrw
    clear hkw hrw
    have hcv := (Hkw.out.cell (o := 26) Hb.out.lt Hnb.out).trans Hk.out.cv
    by_cases hlt : i < N
    · have q1 : (i : Int) < (N : Int) := by omega
      obtain ⟨v, hv⟩ : ∃ v, vs[i]? = some v := ⟨vs[i]'(by rw [HN.out]; exact hlt), List.getElem?_eq_getElem _⟩
      obtain ⟨n, xs, hn, hown, _⟩ := Hrw.out i v hv
      obtain ⟨A1, c1, rfl, hnc, hcm⟩ := own_hdr hown
      unfold maxLen at hcm
      obtain ⟨hb0, hoff, rfl, hbl, hch⟩ := (own_rd Hk.out.ov) i _ hv
      have hhb : ¬ InB vs hb0 := Hnv.out hb0 rfl
      have hch1 := (Hkw.out.cell (o := hoff + i) hbl hhb).trans hch
      have Hv := Lib.hid hv; have Hown := Lib.hid hown; have Hbl := Lib.hid hbl; have Hhb := Lib.hid hhb; have Hcv := Lib.hid hcv; have Hch := Lib.hid hch1
      have Hmv : Hid (Value.slice A1 n c1 ∈ vs) := Lib.hid (List.mem_of_getElem? hv)
      have Hbw := Lib.hid (Hb.out.kept Hkw.out Hnb.out)
      have Hh2 : Hid (hb0 < wr.heap.size) := Lib.hid (Nat.lt_of_lt_of_le hbl Hkw.out.size)
      clear hv hown hbl hhb hch hcv hch1
      have hw1 : IntKind.i64.wrap (id + (i : Int) + 1) = id + (i : Int) + 1 := IntWalk.i64_in _ (by omega)
      generalize wr = w1 at *
      have hcv := Hcv.out
      have hch := Hch.out
      go_wp2_with fail
      go_loopw [6] (fun jv wq => ∃ (j : Nat) (ys : List Value), jv = .int .i64 (j : Int) ∧ j ≤ n ∧ Kept (fun g => (Value.slice A1 n c1).ownBlock = some g) w1 wq ∧ wq.ownsRow 0 (eT 8) (sz 8) (.slice A1 n c1) n ys ∧ ys.take (j * sz 8) = marks 8 p (id + (i : Int) + 1) j) (fun jv _ => n - (intOf jv).toNat)
      case atStart => exact ⟨0, xs, rfl, by omega, Kept.refl _ _, Hown.out, by simp [marks]⟩
      case round =>
        obtain ⟨j, ys, rfl, hj, hk2, ho2, ht2⟩ := hrel
        clear hcv hch
        have hnv2 : ∀ g, (Value.slice A1 n c1).ownBlock = some g → InB vs g := fun g hg => ⟨_, Hmv.out, hg⟩
        have hcv : wr.cell? ⟨kb, 26, none⟩ = _ := (hk2.cell Hbw.out.lt (fun h => Hnb.out (hnv2 _ h))).trans Hcv.out
        have hch : wr.cell? ⟨hb0, hoff + i, none⟩ = _ := (hk2.cell Hh2.out (fun h => Hhb.out (hnv2 _ h))).trans Hch.out
        have Hbq := Lib.hid (Hbw.out.kept hk2 (fun h => Hnb.out (hnv2 _ h)))
        by_cases hjn : j < n
        · have q2 : (j : Int) < (n : Int) := by omega
          obtain ⟨g, cc, hvv, _, _, hgl⟩ := own_some ho2 (by omega)
          injection hvv with e1 e2 e3
          subst e1
          subst e3
          have hst : (wr.cell? ⟨kb, 26, none⟩ = some (.slice (some ⟨hb0, hoff, none⟩) N C) ∧ wr.cell? ⟨hb0, hoff + i, none⟩ = some (.slice (some ⟨g, 0, none⟩) n c1) ∧ CanPut wr g (j * 3) 3) ∧ (kb ≠ g ∧ hb0 ≠ g) ∧ Kept (fun k => k = g) wr wr :=
            ⟨⟨hcv, hch, own_canPut ho2 (by rw [ho2.1]; simp only [show sz 8 = 3 from rfl]; omega)⟩, ⟨fun h => Hnb.out (h ▸ hnv2 g rfl), fun h => Hhb.out (h ▸ hnv2 g rfl)⟩, Kept.refl _ _⟩
          obtain ⟨y, z, hz, hmk⟩ : ∃ y z, mkV 8 p (id + (i : Int) + 1) (j : Int) = .agg #[.int .i64 y, .int .i64 z, .bool false] ∧ mk 8 p (id + (i : Int) + 1) j = [.int .i64 y, .int .i64 z, .bool false] := ⟨_, _, rfl, rfl⟩
          have Hz := Lib.hid hz; have Hmk := Lib.hid hmk
          clear hz hmk
          have Hk2 := Lib.hid hk2; have Ho2 := Lib.hid ho2; have Ht2 := Lib.hid ht2; have Hgl := Lib.hid hgl
          clear hk2 ho2 ht2 hnv2 hgl e2
          go_wp2_with fail
          go_region_held3 (fun w' => (w'.cell? ⟨kb, 26, none⟩ = some (.slice (some ⟨hb0, hoff, none⟩) N C) ∧ w'.cell? ⟨hb0, hoff + i, none⟩ = some (.slice (some ⟨g, 0, none⟩) n c1) ∧ CanPut w' g (j * 3) 3) ∧ (kb ≠ g ∧ hb0 ≠ g) ∧ Kept (fun k => k = g) wr w')
            ((rename (_ ∧ _) ∧ (_ ∧ _) ∧ Kept _ _ _ => hS; first
              | (with_reducible exact hS)
              | (with_reducible exact hst)
              | (with_reducible exact ws_drew hS)
              | (with_reducible exact ws_set (ws_set (ws_set (hS))))
              | (exact ws_below hS (by assumption))))
            ((first
              | (go_at_call 213; rename (_ ∧ _) ∧ (_ ∧ _) ∧ Kept _ _ _ => hS; refine (mark8_calls kb p _ (j : Int) _ (Hbq.out.kept hS.2.2 hS.2.1.1).c1).mono ?_; rintro e w2 ⟨rfl, hb2⟩; rw [Hz.out]; have hqf0 := (hS.1.2.2.below hb2).2 0 (by decide) |>.2; obtain ⟨x0, hqc0⟩ := Option.isSome_iff_exists.1 ((hS.1.2.2.below hb2).2 0 (by decide)).1; rw [Nat.add_zero] at hqf0 hqc0; have hqf1 := (hS.1.2.2.below hb2).2 1 (by decide) |>.2; obtain ⟨x1, hqc1⟩ := Option.isSome_iff_exists.1 ((hS.1.2.2.below hb2).2 1 (by decide)).1; have hqf2 := (hS.1.2.2.below hb2).2 2 (by decide) |>.2; obtain ⟨x2, hqc2⟩ := Option.isSome_iff_exists.1 ((hS.1.2.2.below hb2).2 2 (by decide)).1)))
          have hb2 : Below wr.heap.size wr w2 := ⟨hb2.os, hb2.tape, hb2.output, hb2.size, hb2.block⟩
          have hk3 := ((Kept.of_below (F := fun k => (Value.slice (some ⟨g, 0, none⟩) n c1).ownBlock = some k) (w := wr) hb2).trans (Kept.puts g [.int .i64 y, .int .i64 z, .bool false] (j * 3) w2) (fun x h => Or.inl (by rw [h]; rfl)))
          have hrow := put_next (own_below_any Ho2.out hb2) hjn Ht2.out Hmk.out (o := j * 3) (by simp [sz])
          have Hk4 := Lib.hid (Hk2.out.trans hk3 (fun x h => Or.inl h))
          obtain ⟨zs, hown4, ht4⟩ := hrow
          have Ho4 := Lib.hid hown4; have Ht4 := Lib.hid ht4
          clear hk3 hown4 ht4 hst hS hqc0 hqf0 hb2
          go_wp2_with fail
          exact ⟨⟨j + 1, zs, by congr 1, by omega, Hk4.out, Ho4.out, Ht4.out⟩, by simp [intOf]; omega⟩
        · obtain rfl : j = n := by omega
          have hfull := marks_full ho2 ht2
          have Hrn := Lib.hid (Hrw.out.next Ha.out Hv.out hn ho2 hfull hk2)
          have Hkn := Lib.hid (Hkw.out.trans hk2 (fun x h => Or.inl (hnv2 x h)))
          clear hfull ho2 ht2 hk2 hnv2
          go_wp2_with fail
          exact ⟨⟨i + 1, by congr 1; push_cast; omega, by congr 1, by omega, Hkn.out, Hrn.out⟩, by simp [intOf]; omega⟩
    · obtain rfl : i = N := by omega
      clear hcv
      have hcv := Lib.hid ((Hkw.out.cell (o := 26) Hb.out.lt Hnb.out).trans Hk.out.cv)
      have hcv := hcv.out
      go_wp2_with fail
      go_ret
      exact ⟨rfl, Hkw.out, fun k v hv => by
        obtain ⟨n, xs, h1, h2, h3⟩ := Hrw.out k v hv
        exact ⟨n, xs, h1, h2, h3 (by have := (List.getElem?_eq_some_iff.1 hv).1; rw [HN.out] at this; exact this)⟩⟩
set_option maxRecDepth 20000 in
set_option maxHeartbeats 4000000 in
theorem hold8_calls (kb : Nat) (b p id : Int) (vs gs : List Value) (hv hg : Value) (w : World) (hb : BkC w kb b p) (hk : KS w kb 8 vs gs hv hg) (hs : Shows w 8 p id vs) (hsg : Shows w 8 p id gs) (hN : vs.length ≤ 1048576) (h0 : 0 ≤ id) (h1 : id ≤ 1099511627776) :
    Calls Tryz.prog 148 #[.pointer (some ⟨kb, 0, none⟩), .int .i64 id] w fun e w' => e = .returned (.tuple #[.int .i64 (id + vs.length), .bool true]) ∧ Below w.heap.size w w' := by
  obtain ⟨A, C, rfl, hNC, hCm⟩ := own_hdr hk.ov
  obtain ⟨A2, C2, rfl, hNC2, hCm2⟩ := own_hdr hk.og
  obtain ⟨N, hNv⟩ : ∃ N, vs.length = N := ⟨_, rfl⟩
  obtain ⟨M, hMv⟩ : ∃ M, gs.length = M := ⟨_, rfl⟩
  rw [hNv] at hNC hN ⊢
  rw [hMv] at hNC2
  unfold maxLen at hCm hCm2
  rw [hNv, hMv] at hk
  have Hb := Lib.hid hb; have Hk := Lib.hid hk; have HN := Lib.hid hNv; have HM := Lib.hid hMv; have Hs := Lib.hid hs; have Hsg := Lib.hid hsg
  have Hcm := Lib.hid hCm; have Hcm2 := Lib.hid hCm2
  clear hb hk hNv hMv hs hsg
  go_enter Tryz.func148, Tryz.ntmps148
  go_wp2_with fail
  go_loopw [1, 6, 7] (fun idv av iv wr => ∃ i : Nat, idv = .int .i64 (id + (i : Int)) ∧ av = .bool true ∧ iv = .int .i64 (i : Int) ∧ i ≤ N ∧ Below w.heap.size w wr) (fun _ _ iv _ => N - (intOf iv).toNat)
  case atStart => exact ⟨0, by simp, rfl, rfl, by omega, Below.refl _ _⟩
  case round =>
    obtain ⟨i, rfl, rfl, rfl, hi, hbl⟩ := hrel
    have Hbl := Lib.hid hbl
    have Hcv := Lib.hid (hbl.cell (p := ⟨kb, 26, none⟩) Hb.out.lt |>.trans Hk.out.cv)
    have Hcg := Lib.hid (hbl.cell (p := ⟨kb, 28, none⟩) Hb.out.lt |>.trans Hk.out.cg)
    clear hbl
    have hcv := Hcv.out
    by_cases hlt : i < N
    · have q1 : (i : Int) < (N : Int) := by omega
      have hw1 : IntKind.i64.wrap (id + (i : Int) + 1) = id + (i : Int) + 1 := IntWalk.i64_in _ (by omega)
      obtain ⟨v, hv⟩ : ∃ v, vs[i]? = some v := ⟨vs[i]'(by rw [HN.out]; exact hlt), List.getElem?_eq_getElem _⟩
      obtain ⟨n, hn, A1, c1, rfl, hnc, hcm, hrd⟩ := Hs.out i v hv
      obtain ⟨hb0, hoff, rfl, hbl0, hch⟩ := (own_rd Hk.out.ov) i _ hv
      have hch := (Hbl.out.cell (p := ⟨hb0, hoff + i, none⟩) hbl0).trans hch
      have Hrd := Lib.hid hrd; have Hn := Lib.hid hn; have Hnc := Lib.hid hnc; have Hcmm := Lib.hid hcm
      have Hbw := Lib.hid (Hb.out.below Hbl.out)
      clear hrd hbl0 hv hn hnc hcm
      by_cases hgt : i < M
      · have q2 : (i : Int) < (M : Int) := by omega
        obtain ⟨v2, hv2⟩ : ∃ v, gs[i]? = some v := ⟨gs[i]'(by rw [HM.out]; exact hgt), List.getElem?_eq_getElem _⟩
        obtain ⟨n2, hn2, A3, c3, rfl, hnc3, hcm3, hrd3⟩ := Hsg.out i v2 hv2
        obtain ⟨hb3, hoff3, rfl, hbl3, hch3⟩ := (own_rd Hk.out.og) i _ hv2
        have Hrd3 := Lib.hid hrd3; have Hn3 := Lib.hid hn2; have Hnc3 := Lib.hid hnc3; have Hcm3 := Lib.hid hcm3; have Hbl3 := Lib.hid hbl3; have Hch3 := Lib.hid hch3
        clear hrd3 hbl3 hv2 hch3 hn2 hnc3 hcm3
        go_wp2_with (first
          | (go_at_call 230; have hXX := hcv; clear hXX; refine (show8_calls kb b p _ A1 n c1 w.heap.size wr Hbw.out Hn.out Hnc.out Hcmm.out Hbl.out.size (Hrd.out.below Hbl.out (Nat.le_refl _))).mono ?_; rintro e w2 ⟨rfl, hb2⟩; have Hb2 := Lib.hid (Hbl.out.trans (hb2.mono Hbl.out.size)); have hcg := (hb2.cell (p := ⟨kb, 28, none⟩) Hbw.out.lt).trans Hcg.out; have hch3 := (Hb2.out.cell (p := ⟨hb3, hoff3 + i, none⟩) Hbl3.out).trans Hch3.out; clear hb2 hcv hch)
          | (go_at_call 230; refine (show8_calls kb b p _ A3 n2 c3 w.heap.size w2 (Hb.out.below Hb2.out) Hn3.out Hnc3.out Hcm3.out Hb2.out.size (Hrd3.out.below Hb2.out (Nat.le_refl _))).mono ?_; rintro e w3 ⟨rfl, hb3⟩; have Hb3 := Lib.hid (Hb2.out.trans (hb3.mono Hb2.out.size)); clear hb3))
        exact ⟨⟨i + 1, by congr 1; push_cast; omega, rfl, by congr 1, by omega, Hb3.out⟩, by simp [intOf]; omega⟩
      · have q2 : ¬ (i : Int) < (M : Int) := by omega
        go_wp2_with (first
          | (go_at_call 230; have hXX := hcv; clear hXX; refine (show8_calls kb b p _ A1 n c1 w.heap.size wr Hbw.out Hn.out Hnc.out Hcmm.out Hbl.out.size (Hrd.out.below Hbl.out (Nat.le_refl _))).mono ?_; rintro e w2 ⟨rfl, hb2⟩; have Hb2 := Lib.hid (Hbl.out.trans (hb2.mono Hbl.out.size)); have hcg := (hb2.cell (p := ⟨kb, 28, none⟩) Hbw.out.lt).trans Hcg.out; clear hb2 hcv hch))
        exact ⟨⟨i + 1, by congr 1; push_cast; omega, rfl, by congr 1, by omega, Hb2.out⟩, by simp [intOf]; omega⟩
    · obtain rfl : i = N := by omega
      go_wp2_with fail
      go_ret2
      exact ⟨rfl, Hbl.out⟩
set_option maxRecDepth 20000 in
set_option maxHeartbeats 8000000 in
theorem grow8_calls (kb t : Nat) (b p id : Int) (vs gs : List Value) (hv hg : Value) (w : World) (ht100 : t ≤ 100) (hb : BkC w kb b p) (hk : KS w kb 8 vs gs hv hg) (hgl : gs.length = laidN t 0 vs.length) (hgr : Grown w 8 p id vs gs (fun _ => t)) (hap : Ap2 vs gs) (hN : vs.length ≤ 1048576) (h0 : 0 ≤ id) (h1 : id ≤ 1099511627776) :
    Calls Tryz.prog 165 #[.pointer (some ⟨kb, 0, none⟩), .int .i64 id, .int .i64 (t : Int)] w (GrowSaid kb 8 b p id vs gs hv hg t w) := by
  obtain ⟨i0, hi, hz0, hz1, hz2⟩ := info_parts info8
  obtain ⟨iS, hiS, hzS0, hzS1, hzS2⟩ := info_parts infoS8
  obtain ⟨A, C, rfl, hNC, hCm⟩ := own_hdr hk.ov
  obtain ⟨N, hNv⟩ : ∃ N, vs.length = N := ⟨_, rfl⟩
  have Hst0 := Lib.hid (GrowInv.start hb hk hgl hgr hap)
  rw [hNv] at hNC hN
  unfold maxLen at hCm
  have HN := Lib.hid hNv
  have Hcm := Lib.hid hCm
  have Hi := Lib.hid hi; have HiS := Lib.hid hiS
  clear hb hk hNv hgl hgr hap hCm hi hiS
  go_enter Tryz.func165, Tryz.ntmps165
  rw [HN.out] at Hst0
  go_wp2_with fail
  go_loopw [1, 7] (fun idv iv wr => ∃ i : Nat, idv = .int .i64 (id + (i : Int)) ∧ iv = .int .i64 (i : Int) ∧ i ≤ N ∧ ∃ hgi gsi, GrowInv kb 8 b p id vs gs (.slice A N C) hg t (laidN t i N) i w wr hgi gsi) (fun _ iv _ => N - (intOf iv).toNat)
  case atStart => exact ⟨0, by simp, rfl, by omega, _, _, Hst0.out⟩
  case round =>
    obtain ⟨i, rfl, rfl, hi, hgi, gsi, hinv⟩ := hrel
    have Hin := Lib.hid hinv
    have hcv := hinv.ks.cv
    clear hinv
    by_cases hlt : i < N
    · have q1 : (i : Int) < (N : Int) := by omega
      have hw1 : IntKind.i64.wrap (id + (i : Int) + 1) = id + (i : Int) + 1 := IntWalk.i64_in _ (by omega)
      by_cases htz : t = 0
      · have q2 : ((t : Int) == 0) = true := by rw [beq_iff_eq]; omega
        have Hl0 := Lib.hid (show laidN t i N = i from if_pos htz)
        have Hl2 := Lib.hid (show laidN t (i + 1) N = i + 1 from if_pos htz)
        have Htz := Lib.hid htz
        clear htz
        rw [Hl0.out] at Hin
        generalize wr = W0 at *
        obtain ⟨v, hvi⟩ : ∃ v, vs[i]? = some v := ⟨vs[i]'(by rw [HN.out]; exact hlt), List.getElem?_eq_getElem _⟩
        obtain ⟨hb0, cv0, hvv, hvc, hvcm, hvbl⟩ := own_some Hin.out.ks.ov (by rw [HN.out]; omega)
        obtain ⟨n0, hn0, hov0, _⟩ := Hin.out.gr i v hvi
        obtain ⟨A1, c1, rfl, _, _⟩ := own_hdr hov0
        injection hvv with e1 e2 e3
        subst e1
        subst e3
        have hch := own_cell Hin.out.ks.ov hvi
        obtain ⟨A2, C2, rfl, hc2, hcm2⟩ := own_hdr Hin.out.ks.og
        have hcg := Hin.out.ks.cg
        rw [Hin.out.len] at Hin hcg hc2
        have Hvi := Lib.hid hvi; have Hcg := Lib.hid hcg; have Hch := Lib.hid hch; have Hcv := Lib.hid hcv
        have Hbk := Lib.hid Hin.out.bk
        have Hov0 : Hid (W0.ownsRow 0 (sT 8) 1 (.slice (some ⟨hb0, 0, none⟩) N C) vs.length vs) := Lib.hid Hin.out.ks.ov
        have Hog0 : Hid (W0.ownsRow 0 (sT 8) 1 (.slice A2 i C2) i gsi) := Lib.hid (by have := Hin.out.ks.og; rw [Hin.out.len] at this; exact this)
        clear hvi hvc hvcm hvbl e2 hn0 hov0 hc2 hcm2
        have hA1 : ∀ O, (W0.alloc O).cell? ⟨kb, 26, none⟩ = _ := fun O => (cell_alloc_lt (w := W0) O (cell_lt hcv)).trans hcv
        have hA2 : ∀ O, (W0.alloc O).cell? ⟨hb0, i, none⟩ = _ := fun O => (cell_alloc_lt (w := W0) O (cell_lt hch)).trans hch
        have hA3 : ∀ O, (W0.alloc O).cell? ⟨kb, 28, none⟩ = _ := fun O => (cell_alloc_lt (w := W0) O (cell_lt hcg)).trans hcg
        have Hal0 := Lib.hid (show Below W0.heap.size W0 (W0.alloc (.cells #[.slice A1 n0 c1] 54)).drew from ((Below.refl W0.heap.size W0).alloc (Nat.le_refl _) _).drew)
        have Hog1 := Lib.hid (show (W0.alloc (.cells #[.slice A1 n0 c1] 54)).drew.ownsRow 0 54 1 (.slice A2 i C2) i gsi from own_below_any Hog0.out Hal0.out)
        have Hrd0 := Lib.hid (rd_alloc W0 #[.slice A1 n0 c1] 54 [.slice A1 n0 c1] rfl)
        have Hne3 := Lib.hid (show ¬ (Value.slice A2 i C2).ownBlock = some kb from Hbk.out.not Hog0.out (sT_book 8))
        have Hne4 := Lib.hid (show ¬ (Value.slice A2 i C2).ownBlock = some hb0 from fun h => (by have hsp := Hin.out.ks.sep; exact hsp hb0 rfl h))
        go_wp2_with fail
        refine Bk.region_front2 (n := 16) (S := fun w' => w'.cell? ⟨kb, 28, none⟩ = some (.slice A2 i C2) ∧ w'.cell? ⟨kb, 26, none⟩ = some (.slice (some ⟨hb0, 0, none⟩) N C) ∧ w'.cell? ⟨hb0, i, none⟩ = some (.slice A1 n0 c1)) rfl rfl (by kernel_rfl) (by kernel_rfl) (by kernel_rfl) rfl (by kernel_rfl) ⟨hcg, hcv, hch⟩ (fun hS0 => ?_)
        simp only [List.take_succ_cons, List.take_zero]
        refine Bk.takeD (i := 0) (some 22) (v := .pointer (some ⟨kb, 0, none⟩)) rfl rfl (by kernel_rfl) (by kernel_rfl) (by kernel_rfl) (fun _ _ _ h => h) (Or.inl ⟨by rfl, fun w' hS => by (try dsimp only at hS); go_simp⟩) hS0 ?_
        simp only [Act.put, List.setIfInBounds_toArray, List.set_cons_zero, List.set_cons_succ]
        refine Bk.takeD (i := 1) (some 23) (v := .pointer (some ⟨kb, 0, none⟩)) rfl rfl (by kernel_rfl) (by kernel_rfl) (by kernel_rfl) (fun _ _ _ h => h) (Or.inl ⟨by rfl, fun w' hS => by (try dsimp only at hS); go_simp⟩) hS0 ?_
        simp only [Act.put, List.setIfInBounds_toArray, List.set_cons_zero, List.set_cons_succ]
        refine Bk.takeD (i := 2) (some 24) (v := .pointer (some ⟨kb, 0, none⟩)) rfl rfl (by kernel_rfl) (by kernel_rfl) (by kernel_rfl) (fun _ _ _ h => h) (Or.inl ⟨by rfl, fun w' hS => by (try dsimp only at hS); go_simp⟩) hS0 ?_
        simp only [Act.put, List.setIfInBounds_toArray, List.set_cons_zero, List.set_cons_succ]
        refine Bk.takeD (i := 3) (some 25) (v := .pointer (some ⟨kb, 28, none⟩)) rfl rfl (by kernel_rfl) (by kernel_rfl) (by kernel_rfl) (fun _ _ _ h => h) (Or.inl ⟨by rfl, fun w' hS => by (try dsimp only at hS); go_simp⟩) hS0 ?_
        simp only [Act.put, List.setIfInBounds_toArray, List.set_cons_zero, List.set_cons_succ]
        refine Bk.takeD (i := 4) (some 26) (v := .slice A2 i C2) rfl rfl (by kernel_rfl) (by kernel_rfl) (by kernel_rfl) (fun _ _ _ h => h) (Or.inl ⟨by rfl, fun w' hS => by (try dsimp only at hS); go_simp⟩) hS0 ?_
        simp only [Act.put, List.setIfInBounds_toArray, List.set_cons_zero, List.set_cons_succ]
        refine Bk.takeD (i := 5) (some 27) (v := .pointer (some ⟨kb, 0, none⟩)) rfl rfl (by kernel_rfl) (by kernel_rfl) (by kernel_rfl) (fun _ _ _ h => h) (Or.inl ⟨by rfl, fun w' hS => by (try dsimp only at hS); go_simp⟩) hS0 ?_
        simp only [Act.put, List.setIfInBounds_toArray, List.set_cons_zero, List.set_cons_succ]
        refine Bk.takeD (i := 6) (some 28) (v := .pointer (some ⟨kb, 0, none⟩)) rfl rfl (by kernel_rfl) (by kernel_rfl) (by kernel_rfl) (fun _ _ _ h => h) (Or.inl ⟨by rfl, fun w' hS => by (try dsimp only at hS); go_simp⟩) hS0 ?_
        simp only [Act.put, List.setIfInBounds_toArray, List.set_cons_zero, List.set_cons_succ]
        refine Bk.takeD (i := 7) (some 29) (v := .pointer (some ⟨kb, 26, none⟩)) rfl rfl (by kernel_rfl) (by kernel_rfl) (by kernel_rfl) (fun _ _ _ h => h) (Or.inl ⟨by rfl, fun w' hS => by (try dsimp only at hS); go_simp⟩) hS0 ?_
        simp only [Act.put, List.setIfInBounds_toArray, List.set_cons_zero, List.set_cons_succ]
        refine Bk.takeD (i := 8) (some 30) (v := .slice (some ⟨hb0, 0, none⟩) N C) rfl rfl (by kernel_rfl) (by kernel_rfl) (by kernel_rfl) (fun _ _ _ h => h) (Or.inl ⟨by rfl, fun w' hS => by (try dsimp only at hS); go_simp⟩) hS0 ?_
        simp only [Act.put, List.setIfInBounds_toArray, List.set_cons_zero, List.set_cons_succ]
        refine Bk.takeD (i := 9) (some 31) (v := .int .i64 (i : Int)) rfl rfl (by kernel_rfl) (by kernel_rfl) (by kernel_rfl) (fun _ _ _ h => h) (Or.inl ⟨by rfl, fun w' hS => by (try dsimp only at hS); go_simp⟩) hS0 ?_
        simp only [Act.put, List.setIfInBounds_toArray, List.set_cons_zero, List.set_cons_succ]
        refine Bk.takeD (i := 10) (some 32) (v := .pointer (some ⟨hb0, i, none⟩)) rfl rfl (by kernel_rfl) (by kernel_rfl) (by kernel_rfl) (fun _ _ _ h => h) (Or.inl ⟨by rfl, fun w' hS => by (try dsimp only at hS); go_simp⟩) hS0 ?_
        simp only [Act.put, List.setIfInBounds_toArray, List.set_cons_zero, List.set_cons_succ]
        refine Bk.takeD (i := 11) (some 33) (v := .slice A1 n0 c1) rfl rfl (by kernel_rfl) (by kernel_rfl) (by kernel_rfl) (fun _ _ _ h => h) (Or.inl ⟨by rfl, fun w' hS => by (try dsimp only at hS); go_simp⟩) hS0 ?_
        simp only [Act.put, List.setIfInBounds_toArray, List.set_cons_zero, List.set_cons_succ]
        refine Bk.valD (i := 12) (some 34) (by kernel_rfl) rfl rfl rfl (v := .slice (some ⟨W0.heap.size, 0, none⟩) 1 1) (w' := (W0.alloc (.cells #[.slice A1 n0 c1] 54)).drew) (by go_simp) (⟨hA3 _, hA1 _, hA2 _⟩) (fun hS1 => ?_)
        simp only [Act.put, List.setIfInBounds_toArray, List.set_cons_zero, List.set_cons_succ]
        refine Bk.appD (i := 13) (some 35) (by kernel_rfl) rfl rfl rfl _ _ 34 rfl 54 iS _ 1 24 descS8 HiS.out hzS0 hzS1 hzS2 rfl (by decide) (.slice A2 i C2) i gsi rfl Hog1.out ⟨W0.heap.size, 0, none⟩ 1 1 _ [.slice A1 n0 c1] rfl (by decide) (by rfl) Hrd0.out (by intro u hu; simp at hu; subst hu; rfl) (by unfold maxLen; omega) (by omega) ?_
        intro v6 w6 hown6 hold6 hkept6 hblk6; obtain ⟨A6, c6, rfl, _, _⟩ := own_hdr hown6.out; have hc6 := (hkept6.out.cell (o := 26) (Nat.lt_of_lt_of_le Hbk.out.lt Hal0.out.size) Hne3.out).trans (hA1 _); have hc7 := (hkept6.out.cell (o := 28) (Nat.lt_of_lt_of_le Hbk.out.lt Hal0.out.size) Hne3.out).trans (hA3 _); have hx6 := (hkept6.out.cell (o := i) (Nat.lt_of_lt_of_le (cell_lt Hch.out) Hal0.out.size) Hne4.out).trans (hA2 _); have hf6 : w6.frozen? ⟨kb, 28, none⟩ = false := (World.frozen?_of_block (w := W0) (a := ⟨kb, 28, none⟩) ((hkept6.out.block kb (Nat.lt_of_lt_of_le Hbk.out.lt Hal0.out.size) Hne3.out).trans (Hal0.out.block kb Hbk.out.lt))).trans (Hbk.out.fz _)
        refine ⟨⟨hc7, hc6, hx6⟩, fun hS2 => ?_⟩
        simp only [Act.put, List.setIfInBounds_toArray, List.set_cons_zero, List.set_cons_succ]
        refine Bk.takeD (i := 14) (some 36) (v := .pointer (some ⟨kb, 0, none⟩)) rfl rfl (by kernel_rfl) (by kernel_rfl) (by kernel_rfl) (fun _ _ _ h => h) (Or.inl ⟨by rfl, fun w' hS => by (try dsimp only at hS); go_simp⟩) hS2 ?_
        simp only [Act.put, List.setIfInBounds_toArray, List.set_cons_zero, List.set_cons_succ]
        refine Bk.takeD (i := 15) (some 37) (v := .pointer (some ⟨kb, 28, none⟩)) rfl rfl (by kernel_rfl) (by kernel_rfl) (by kernel_rfl) (fun _ _ _ h => h) (Or.inl ⟨by rfl, fun w' hS => by (try dsimp only at hS); go_simp⟩) hS2 ?_
        simp only [Act.put, List.setIfInBounds_toArray, List.set_cons_zero, List.set_cons_succ]
        refine wpAnyH_done (by kernel_rfl) ?_ _
        simp only [Bk.behind]
        clear hS0 hS1 hS2
        go_simp
        refine NoPanic.normal ?_
        all_goals
          have HB : Hid (GrowInv kb 8 b p id vs gs (.slice (some ⟨hb0, 0, none⟩) N C) hg t (i + 1) i w (w6.setCell ⟨kb, 28, none⟩ (.slice A6 (i + 1) c6)) (.slice A6 (i + 1) c6) (gsi ++ [.slice A1 n0 c1])) := Lib.hid (Hin.out.begin_ Htz.out (by decide) Hvi.out Hal0.out hkept6.out hown6.out hblk6.out)
          clear hcv hch hcg hA1 hA2 hA3 hc6 hc7 hx6 hf6 hown6 hold6 hkept6 hblk6 Hin Hrd0 Hne3 Hne4 Hog1 Hal0 Hog0 Hov0 Hbk Hcv Hch Hcg Hvi
          generalize w6.setCell ⟨kb, 28, none⟩ (.slice A6 (i + 1) c6) = W at *
          obtain ⟨l, hl⟩ : ∃ l, l = i + 1 := ⟨_, rfl⟩
          have HlN : Hid (l ≤ vs.length) := Lib.hid (by rw [HN.out, hl]; exact hlt)
          rw [← hl] at HB
          obtain ⟨gsi, hgsi⟩ : ∃ x, x = gsi ++ [.slice A1 n0 c1] := ⟨_, rfl⟩
          rw [← hgsi] at HB
          clear hgsi
          generalize Value.slice A6 l c6 = hgi at HB
          have Hin := HB
          have hcv := Hin.out.ks.cv
          have Hl2 : Hid (laidN t (i + 1) N = l) := Lib.hid (by rw [hl]; exact Hl2.out)
          obtain ⟨v, g, n, hvi, hgi', hn, hov, hog⟩ := Hin.out.at_ (by omega) (by rw [HN.out]; exact hlt)
          clear hl HB
          obtain ⟨A3, c3, rfl, hc3, hcm3⟩ := own_hdr hog
          obtain ⟨hgb, cg, rfl, hgc, hcgm, hgbl⟩ := own_some Hin.out.ks.og (by have := (List.getElem?_eq_some_iff.1 hgi').1; omega)
          have hcg := Hin.out.ks.cg
          have hch := own_cell Hin.out.ks.og hgi'
          obtain ⟨M, hM⟩ : ∃ M, gsi.length = M := ⟨_, rfl⟩
          have HM := Lib.hid hM
          rw [hM] at hcg hgc Hin
          have q3 : (i : Int) < (M : Int) := by have := (List.getElem?_eq_some_iff.1 hgi').1; omega
          have Hcg := Lib.hid hcg; have Hch := Lib.hid hch; have Hgbl := Lib.hid hgbl
          have Hvi := Lib.hid hvi; have Hgi := Lib.hid hgi'; have Hov := Lib.hid hov; have Hog := Lib.hid hog; have Hc3 := Lib.hid hc3; have Hcm3 := Lib.hid hcm3; have Hn := Lib.hid hn; have Hbw := Lib.hid Hin.out.bk
          clear hM hvi hgi' hov hog hgbl hc3 hcm3 hn
          unfold maxLen at hcgm
          obtain ⟨m, hm⟩ : ∃ m, m = n + t := ⟨_, rfl⟩
          rw [← hm] at Hog Hc3 hch Hch Hgi
          have Hm := Lib.hid hm
          clear hm
          obtain ⟨y, z, hz, hmk⟩ : ∃ y z, mkV 8 p (id + (i : Int) + 1) (m : Int) = .agg #[.int .i64 y, .int .i64 z, .bool false] ∧ mk 8 p (id + (i : Int) + 1) m = [.int .i64 y, .int .i64 z, .bool false] := ⟨_, _, rfl, rfl⟩
          have Hz := Lib.hid hz; have Hmk := Lib.hid hmk
          clear hz hmk
          go_wp2_with (go_at_call 213; refine (mark8_calls kb p _ (m : Int) W Hbw.out.c1).mono ?_; rintro e w5 ⟨rfl, hb5⟩; rw [Hz.out]; have Hb5 := Lib.hid hb5; have hcg5 := (hb5.cell (p := ⟨kb, 28, none⟩) Hbw.out.lt).trans hcg; have hch5 := (hb5.cell (p := ⟨hgb, i, none⟩) Hgbl.out).trans hch; clear hcg hch hb5)
          have Hal5 := Lib.hid (show Below w5.heap.size w5 (w5.alloc (.cells #[.int .i64 y, .int .i64 z, .bool false] 130)) from (Below.refl w5.heap.size w5).alloc (Nat.le_refl _) _)
          have hcg5 := (Hal5.out.cell (p := ⟨kb, 28, none⟩) (cell_lt hcg5)).trans hcg5
          have hch5 := (Hal5.out.cell (p := ⟨hgb, i, none⟩) (cell_lt hch5)).trans hch5
          have Hsb := Lib.hid (show W.heap.size ≤ w5.heap.size from Hb5.out.size)
          have Hb5 := Lib.hid (Hb5.out.trans (Hal5.out.mono Hb5.out.size))
          have hnew : (w5.alloc (.cells #[.int .i64 y, .int .i64 z, .bool false] 130)).heap[w5.heap.size]? = some (.cells #[.int .i64 y, .int .i64 z, .bool false] 130 (0, 0)) := heap_alloc_new _ _
          have hq0 : (w5.alloc (.cells #[.int .i64 y, .int .i64 z, .bool false] 130)).cell? ⟨w5.heap.size, 0, none⟩ = some (.int .i64 y) := by rw [cell_heap hnew]; rfl
          have hq1 : (w5.alloc (.cells #[.int .i64 y, .int .i64 z, .bool false] 130)).cell? ⟨w5.heap.size, 1, none⟩ = some (.int .i64 z) := by rw [cell_heap hnew]; rfl
          have hq2 : (w5.alloc (.cells #[.int .i64 y, .int .i64 z, .bool false] 130)).cell? ⟨w5.heap.size, 2, none⟩ = some (.bool false) := by rw [cell_heap hnew]; rfl
          clear hnew Hal5
          generalize w5.heap.size = sb at Hsb hq0 hq1 hq2 ⊢
          generalize w5.alloc (.cells #[.int .i64 y, .int .i64 z, .bool false] 130) = w5a at *
          have Hnsb := Lib.hid (show ¬ (Value.slice A3 m c3).ownBlock = some sb from fun h => by have := (own_blk Hog.out h).2; have := Hsb.out; omega)
          have hB0 : ∀ O, (w5a.alloc O).cell? ⟨sb, 0, none⟩ = _ := fun O => (cell_alloc_lt (w := w5a) O (cell_lt hq0)).trans hq0
          have hB1 : ∀ O, (w5a.alloc O).cell? ⟨sb, 1, none⟩ = _ := fun O => (cell_alloc_lt (w := w5a) O (cell_lt hq1)).trans hq1
          have hB2 : ∀ O, (w5a.alloc O).cell? ⟨sb, 2, none⟩ = _ := fun O => (cell_alloc_lt (w := w5a) O (cell_lt hq2)).trans hq2
          have Hs7 := Lib.hid (cell_lt hq0)
          have hA1 : ∀ O, (w5a.alloc O).cell? ⟨kb, 28, none⟩ = _ := fun O => (cell_alloc_lt (w := w5a) O (cell_lt hcg5)).trans hcg5
          have hA2 : ∀ O, (w5a.alloc O).cell? ⟨hgb, i, none⟩ = _ := fun O => (cell_alloc_lt (w := w5a) O (cell_lt hch5)).trans hch5
          have Hfz : Hid (w5a.frozen? ⟨hgb, i, none⟩ = false) := Lib.hid ((Hb5.out.frozen (p := ⟨hgb, i, none⟩) Hgbl.out).trans (own_frozen Hin.out.ks.og i))
          have Hne1 := Lib.hid (show ¬ (Value.slice A3 m c3).ownBlock = some kb from Hbw.out.not Hog.out (eT_book 8))
          have Hne2 := Lib.hid (show ¬ (Value.slice A3 m c3).ownBlock = some hgb from fun h => own_apart Hog.out Hin.out.ks.og (Ne.symm (sT_eT 8)) h rfl)
          have Hal := Lib.hid (show Below w5a.heap.size w5a (w5a.alloc (.cells #[.int .i64 y, .int .i64 z, .bool false] 130)).drew from ((Below.refl w5a.heap.size w5a).alloc (Nat.le_refl _) _).drew)
          have Hog5 := Lib.hid (show (w5a.alloc (.cells #[.int .i64 y, .int .i64 z, .bool false] 130)).drew.ownsRow 0 130 3 (.slice A3 m c3) m (marks 8 p (id + (i : Int) + 1) m) from own_below_any (own_below_any Hog.out Hb5.out) Hal.out)
          have Hrd5 := Lib.hid (rd_alloc w5a #[.int .i64 y, .int .i64 z, .bool false] 130 [.int .i64 y, .int .i64 z, .bool false] rfl)
          have Hs5 := Lib.hid (cell_lt hcg5); have Hs6 := Lib.hid (cell_lt hch5); have Hcg5 := Lib.hid hcg5; have Hch5 := Lib.hid hch5
          have Hmb := Lib.hid (show m ≤ 1099511627876 by have := Hm.out; have := Hn.out; omega)
          refine Bk.region_front2 (n := 16) (S := fun w' => w'.cell? ⟨kb, 28, none⟩ = some (.slice (some ⟨hgb, 0, none⟩) M cg) ∧ w'.cell? ⟨hgb, i, none⟩ = some (.slice A3 m c3) ∧ w'.cell? ⟨sb, 0, none⟩ = some (.int .i64 y) ∧ w'.cell? ⟨sb, 1, none⟩ = some (.int .i64 z) ∧ w'.cell? ⟨sb, 2, none⟩ = some (.bool false)) rfl rfl (by kernel_rfl) (by kernel_rfl) (by kernel_rfl) rfl (by kernel_rfl) ⟨hcg5, hch5, hq0, hq1, hq2⟩ (fun hS0 => ?_)
          simp only [List.take_succ_cons, List.take_zero]
          refine Bk.takeD (i := 0) (some 49) (v := .pointer (some ⟨kb, 0, none⟩)) rfl rfl (by kernel_rfl) (by kernel_rfl) (by kernel_rfl) (fun _ _ _ h => h) (Or.inl ⟨by rfl, fun w' hS => by (try dsimp only at hS); go_simp⟩) hS0 ?_
          simp only [Act.put, List.setIfInBounds_toArray, List.set_cons_zero, List.set_cons_succ]
          refine Bk.takeD (i := 1) (some 50) (v := .pointer (some ⟨kb, 0, none⟩)) rfl rfl (by kernel_rfl) (by kernel_rfl) (by kernel_rfl) (fun _ _ _ h => h) (Or.inl ⟨by rfl, fun w' hS => by (try dsimp only at hS); go_simp⟩) hS0 ?_
          simp only [Act.put, List.setIfInBounds_toArray, List.set_cons_zero, List.set_cons_succ]
          refine Bk.takeD (i := 2) (some 51) (v := .pointer (some ⟨kb, 28, none⟩)) rfl rfl (by kernel_rfl) (by kernel_rfl) (by kernel_rfl) (fun _ _ _ h => h) (Or.inl ⟨by rfl, fun w' hS => by (try dsimp only at hS); go_simp⟩) hS0 ?_
          simp only [Act.put, List.setIfInBounds_toArray, List.set_cons_zero, List.set_cons_succ]
          refine Bk.takeD (i := 3) (some 52) (v := .slice (some ⟨hgb, 0, none⟩) M cg) rfl rfl (by kernel_rfl) (by kernel_rfl) (by kernel_rfl) (fun _ _ _ h => h) (Or.inl ⟨by rfl, fun w' hS => by (try dsimp only at hS); go_simp⟩) hS0 ?_
          simp only [Act.put, List.setIfInBounds_toArray, List.set_cons_zero, List.set_cons_succ]
          refine Bk.takeD (i := 4) (some 53) (v := .int .i64 (i : Int)) rfl rfl (by kernel_rfl) (by kernel_rfl) (by kernel_rfl) (fun _ _ _ h => h) (Or.inl ⟨by rfl, fun w' hS => by (try dsimp only at hS); go_simp⟩) hS0 ?_
          simp only [Act.put, List.setIfInBounds_toArray, List.set_cons_zero, List.set_cons_succ]
          refine Bk.takeD (i := 5) (some 54) (v := .pointer (some ⟨kb, 0, none⟩)) rfl rfl (by kernel_rfl) (by kernel_rfl) (by kernel_rfl) (fun _ _ _ h => h) (Or.inl ⟨by rfl, fun w' hS => by (try dsimp only at hS); go_simp⟩) hS0 ?_
          simp only [Act.put, List.setIfInBounds_toArray, List.set_cons_zero, List.set_cons_succ]
          refine Bk.takeD (i := 6) (some 55) (v := .pointer (some ⟨kb, 0, none⟩)) rfl rfl (by kernel_rfl) (by kernel_rfl) (by kernel_rfl) (fun _ _ _ h => h) (Or.inl ⟨by rfl, fun w' hS => by (try dsimp only at hS); go_simp⟩) hS0 ?_
          simp only [Act.put, List.setIfInBounds_toArray, List.set_cons_zero, List.set_cons_succ]
          refine Bk.takeD (i := 7) (some 56) (v := .pointer (some ⟨kb, 28, none⟩)) rfl rfl (by kernel_rfl) (by kernel_rfl) (by kernel_rfl) (fun _ _ _ h => h) (Or.inl ⟨by rfl, fun w' hS => by (try dsimp only at hS); go_simp⟩) hS0 ?_
          simp only [Act.put, List.setIfInBounds_toArray, List.set_cons_zero, List.set_cons_succ]
          refine Bk.takeD (i := 8) (some 57) (v := .slice (some ⟨hgb, 0, none⟩) M cg) rfl rfl (by kernel_rfl) (by kernel_rfl) (by kernel_rfl) (fun _ _ _ h => h) (Or.inl ⟨by rfl, fun w' hS => by (try dsimp only at hS); go_simp⟩) hS0 ?_
          simp only [Act.put, List.setIfInBounds_toArray, List.set_cons_zero, List.set_cons_succ]
          refine Bk.takeD (i := 9) (some 58) (v := .int .i64 (i : Int)) rfl rfl (by kernel_rfl) (by kernel_rfl) (by kernel_rfl) (fun _ _ _ h => h) (Or.inl ⟨by rfl, fun w' hS => by (try dsimp only at hS); go_simp⟩) hS0 ?_
          simp only [Act.put, List.setIfInBounds_toArray, List.set_cons_zero, List.set_cons_succ]
          refine Bk.takeD (i := 10) (some 59) (v := .pointer (some ⟨hgb, i, none⟩)) rfl rfl (by kernel_rfl) (by kernel_rfl) (by kernel_rfl) (fun _ _ _ h => h) (Or.inl ⟨by rfl, fun w' hS => by (try dsimp only at hS); go_simp⟩) hS0 ?_
          simp only [Act.put, List.setIfInBounds_toArray, List.set_cons_zero, List.set_cons_succ]
          refine Bk.takeD (i := 11) (some 60) (v := .slice A3 m c3) rfl rfl (by kernel_rfl) (by kernel_rfl) (by kernel_rfl) (fun _ _ _ h => h) (Or.inl ⟨by rfl, fun w' hS => by (try dsimp only at hS); go_simp⟩) hS0 ?_
          simp only [Act.put, List.setIfInBounds_toArray, List.set_cons_zero, List.set_cons_succ]
          refine Bk.takeD (i := 12) (some 61) (v := .agg #[.int .i64 y, .int .i64 z, .bool false]) rfl rfl (by kernel_rfl) (by kernel_rfl) (by kernel_rfl) (fun _ _ _ h => h) (Or.inl ⟨by rfl, fun w' hS => by (try dsimp only at hS); go_simp⟩) hS0 ?_
          simp only [Act.put, List.setIfInBounds_toArray, List.set_cons_zero, List.set_cons_succ]
          refine Bk.valD (i := 13) (some 62) (by kernel_rfl) rfl rfl rfl (v := .slice (some ⟨w5a.heap.size, 0, none⟩) 1 1) (w' := (w5a.alloc (.cells #[.int .i64 y, .int .i64 z, .bool false] 130)).drew) (by go_simp) (⟨hA1 _, hA2 _, hB0 _, hB1 _, hB2 _⟩) (fun hS1 => ?_)
          simp only [Act.put, List.setIfInBounds_toArray, List.set_cons_zero, List.set_cons_succ]
          refine Bk.appD (i := 14) (some 63) (by kernel_rfl) rfl rfl rfl _ _ 54 rfl 130 i0 _ 3 24 desc8 Hi.out hz0 hz1 hz2 rfl (by decide) (.slice A3 m c3) m (marks 8 p (id + (i : Int) + 1) m) rfl Hog5.out ⟨w5a.heap.size, 0, none⟩ 1 1 _ [.int .i64 y, .int .i64 z, .bool false] rfl (by decide) (by rfl) Hrd5.out (by intro u hu; simp at hu; rcases hu with rfl | rfl | rfl <;> rfl) (by have := Hmb.out; unfold maxLen; omega) (by have := Hmb.out; omega) ?_
          intro v6 w6 hown6 hold6 hkept6 hblk6; obtain ⟨A6, c6, rfl, _, _⟩ := own_hdr hown6.out; have hc6 := (hkept6.out.cell (o := 28) (Nat.lt_of_lt_of_le Hs5.out Hal.out.size) Hne1.out).trans (hA1 _); have hx6 := (hkept6.out.cell (o := i) (Nat.lt_of_lt_of_le Hs6.out Hal.out.size) Hne2.out).trans (hA2 _); have hf6 : w6.frozen? ⟨hgb, i, none⟩ = false := (World.frozen?_of_block (w := w5a) (a := ⟨hgb, i, none⟩) ((hkept6.out.block hgb (Nat.lt_of_lt_of_le Hs6.out Hal.out.size) Hne2.out).trans (Hal.out.block hgb Hs6.out))).trans Hfz.out; have hy0 := (hkept6.out.cell (o := 0) (Nat.lt_of_lt_of_le Hs7.out Hal.out.size) Hnsb.out).trans (hB0 _); have hy1 := (hkept6.out.cell (o := 1) (Nat.lt_of_lt_of_le Hs7.out Hal.out.size) Hnsb.out).trans (hB1 _); have hy2 := (hkept6.out.cell (o := 2) (Nat.lt_of_lt_of_le Hs7.out Hal.out.size) Hnsb.out).trans (hB2 _)
          refine ⟨⟨hc6, hx6, hy0, hy1, hy2⟩, fun hS2 => ?_⟩
          simp only [Act.put, List.setIfInBounds_toArray, List.set_cons_zero, List.set_cons_succ]
          refine Bk.takeD (i := 15) (some 64) (v := .pointer (some ⟨hgb, i, none⟩)) rfl rfl (by kernel_rfl) (by kernel_rfl) (by kernel_rfl) (fun _ _ _ h => h) (Or.inl ⟨by rfl, fun w' hS => by (try dsimp only at hS); go_simp⟩) hS2 ?_
          simp only [Act.put, List.setIfInBounds_toArray, List.set_cons_zero, List.set_cons_succ]
          refine wpAnyH_done (by kernel_rfl) ?_ _
          simp only [Bk.behind]
          clear hS0 hS1 hS2
          go_simp
          refine NoPanic.normal ?_
          all_goals (have HF := Lib.hid (Hin.out.step HlN.out Hvi.out Hgi.out Hn.out Hov.out Hog.out Hm.out Hb5.out Hal.out hkept6.out Hmk.out hown6.out hold6.out hblk6.out))
          all_goals (have HF2 := Lib.hid HF.out.drew)
          all_goals clear hcv hcg5 hch5 hA1 hA2 hc6 hx6 hf6 hown6 hold6 hkept6 hblk6 hq0 hB0 hy0 hq1 hB1 hy1 hq2 hB2 hy2
          all_goals go_wp2_with fail
          all_goals exact ⟨⟨i + 1, by congr 1; push_cast; omega, by congr 1, by omega, _, _, (by rw [Hl2.out]; first | exact HF.out | exact HF2.out)⟩, by simp [intOf]; omega⟩
      · have q2 : ((t : Int) == 0) = false := by rw [beq_eq_false_iff_ne]; omega
        obtain ⟨l, hl⟩ : ∃ l, laidN t i N = l := ⟨_, rfl⟩
        have hlN : l = N := by rw [← hl]; exact if_neg htz
        have Hl2 := Lib.hid (show laidN t (i + 1) N = l by rw [hlN]; exact if_neg htz)
        clear htz
        rw [hl] at Hin
        obtain ⟨v, g, n, hvi, hgi', hn, hov, hog⟩ := Hin.out.at_ (by omega) (by rw [HN.out]; exact hlt)
        have HlN : Hid (l ≤ vs.length) := Lib.hid (by rw [HN.out, hlN]; exact Nat.le_refl _)
        clear hl hlN
        generalize wr = W at *
        obtain ⟨A3, c3, rfl, hc3, hcm3⟩ := own_hdr hog
        obtain ⟨hgb, cg, rfl, hgc, hcgm, hgbl⟩ := own_some Hin.out.ks.og (by have := (List.getElem?_eq_some_iff.1 hgi').1; omega)
        have hcg := Hin.out.ks.cg
        have hch := own_cell Hin.out.ks.og hgi'
        obtain ⟨M, hM⟩ : ∃ M, gsi.length = M := ⟨_, rfl⟩
        have HM := Lib.hid hM
        rw [hM] at hcg hgc Hin
        have q3 : (i : Int) < (M : Int) := by have := (List.getElem?_eq_some_iff.1 hgi').1; omega
        have Hcg := Lib.hid hcg; have Hch := Lib.hid hch; have Hgbl := Lib.hid hgbl
        have Hvi := Lib.hid hvi; have Hgi := Lib.hid hgi'; have Hov := Lib.hid hov; have Hog := Lib.hid hog; have Hc3 := Lib.hid hc3; have Hcm3 := Lib.hid hcm3; have Hn := Lib.hid hn; have Hbw := Lib.hid Hin.out.bk
        clear hM hvi hgi' hov hog hgbl hc3 hcm3 hn
        unfold maxLen at hcgm
        obtain ⟨m, hm⟩ : ∃ m, m = n + t := ⟨_, rfl⟩
        rw [← hm] at Hog Hc3 hch Hch Hgi
        have Hm := Lib.hid hm
        clear hm
        obtain ⟨y, z, hz, hmk⟩ : ∃ y z, mkV 8 p (id + (i : Int) + 1) (m : Int) = .agg #[.int .i64 y, .int .i64 z, .bool false] ∧ mk 8 p (id + (i : Int) + 1) m = [.int .i64 y, .int .i64 z, .bool false] := ⟨_, _, rfl, rfl⟩
        have Hz := Lib.hid hz; have Hmk := Lib.hid hmk
        clear hz hmk
        go_wp2_with (go_at_call 213; refine (mark8_calls kb p _ (m : Int) W Hbw.out.c1).mono ?_; rintro e w5 ⟨rfl, hb5⟩; rw [Hz.out]; have Hb5 := Lib.hid hb5; have hcg5 := (hb5.cell (p := ⟨kb, 28, none⟩) Hbw.out.lt).trans hcg; have hch5 := (hb5.cell (p := ⟨hgb, i, none⟩) Hgbl.out).trans hch; clear hcg hch hb5)
        have Hal5 := Lib.hid (show Below w5.heap.size w5 (w5.alloc (.cells #[.int .i64 y, .int .i64 z, .bool false] 130)) from (Below.refl w5.heap.size w5).alloc (Nat.le_refl _) _)
        have hcg5 := (Hal5.out.cell (p := ⟨kb, 28, none⟩) (cell_lt hcg5)).trans hcg5
        have hch5 := (Hal5.out.cell (p := ⟨hgb, i, none⟩) (cell_lt hch5)).trans hch5
        have Hsb := Lib.hid (show W.heap.size ≤ w5.heap.size from Hb5.out.size)
        have Hb5 := Lib.hid (Hb5.out.trans (Hal5.out.mono Hb5.out.size))
        have hnew : (w5.alloc (.cells #[.int .i64 y, .int .i64 z, .bool false] 130)).heap[w5.heap.size]? = some (.cells #[.int .i64 y, .int .i64 z, .bool false] 130 (0, 0)) := heap_alloc_new _ _
        have hq0 : (w5.alloc (.cells #[.int .i64 y, .int .i64 z, .bool false] 130)).cell? ⟨w5.heap.size, 0, none⟩ = some (.int .i64 y) := by rw [cell_heap hnew]; rfl
        have hq1 : (w5.alloc (.cells #[.int .i64 y, .int .i64 z, .bool false] 130)).cell? ⟨w5.heap.size, 1, none⟩ = some (.int .i64 z) := by rw [cell_heap hnew]; rfl
        have hq2 : (w5.alloc (.cells #[.int .i64 y, .int .i64 z, .bool false] 130)).cell? ⟨w5.heap.size, 2, none⟩ = some (.bool false) := by rw [cell_heap hnew]; rfl
        clear hnew Hal5
        generalize w5.heap.size = sb at Hsb hq0 hq1 hq2 ⊢
        generalize w5.alloc (.cells #[.int .i64 y, .int .i64 z, .bool false] 130) = w5a at *
        have Hnsb := Lib.hid (show ¬ (Value.slice A3 m c3).ownBlock = some sb from fun h => by have := (own_blk Hog.out h).2; have := Hsb.out; omega)
        have hB0 : ∀ O, (w5a.alloc O).cell? ⟨sb, 0, none⟩ = _ := fun O => (cell_alloc_lt (w := w5a) O (cell_lt hq0)).trans hq0
        have hB1 : ∀ O, (w5a.alloc O).cell? ⟨sb, 1, none⟩ = _ := fun O => (cell_alloc_lt (w := w5a) O (cell_lt hq1)).trans hq1
        have hB2 : ∀ O, (w5a.alloc O).cell? ⟨sb, 2, none⟩ = _ := fun O => (cell_alloc_lt (w := w5a) O (cell_lt hq2)).trans hq2
        have Hs7 := Lib.hid (cell_lt hq0)
        have hA1 : ∀ O, (w5a.alloc O).cell? ⟨kb, 28, none⟩ = _ := fun O => (cell_alloc_lt (w := w5a) O (cell_lt hcg5)).trans hcg5
        have hA2 : ∀ O, (w5a.alloc O).cell? ⟨hgb, i, none⟩ = _ := fun O => (cell_alloc_lt (w := w5a) O (cell_lt hch5)).trans hch5
        have Hfz : Hid (w5a.frozen? ⟨hgb, i, none⟩ = false) := Lib.hid ((Hb5.out.frozen (p := ⟨hgb, i, none⟩) Hgbl.out).trans (own_frozen Hin.out.ks.og i))
        have Hne1 := Lib.hid (show ¬ (Value.slice A3 m c3).ownBlock = some kb from Hbw.out.not Hog.out (eT_book 8))
        have Hne2 := Lib.hid (show ¬ (Value.slice A3 m c3).ownBlock = some hgb from fun h => own_apart Hog.out Hin.out.ks.og (Ne.symm (sT_eT 8)) h rfl)
        have Hal := Lib.hid (show Below w5a.heap.size w5a (w5a.alloc (.cells #[.int .i64 y, .int .i64 z, .bool false] 130)).drew from ((Below.refl w5a.heap.size w5a).alloc (Nat.le_refl _) _).drew)
        have Hog5 := Lib.hid (show (w5a.alloc (.cells #[.int .i64 y, .int .i64 z, .bool false] 130)).drew.ownsRow 0 130 3 (.slice A3 m c3) m (marks 8 p (id + (i : Int) + 1) m) from own_below_any (own_below_any Hog.out Hb5.out) Hal.out)
        have Hrd5 := Lib.hid (rd_alloc w5a #[.int .i64 y, .int .i64 z, .bool false] 130 [.int .i64 y, .int .i64 z, .bool false] rfl)
        have Hs5 := Lib.hid (cell_lt hcg5); have Hs6 := Lib.hid (cell_lt hch5); have Hcg5 := Lib.hid hcg5; have Hch5 := Lib.hid hch5
        have Hmb := Lib.hid (show m ≤ 1099511627876 by have := Hm.out; have := Hn.out; omega)
        refine Bk.region_front2 (n := 16) (S := fun w' => w'.cell? ⟨kb, 28, none⟩ = some (.slice (some ⟨hgb, 0, none⟩) M cg) ∧ w'.cell? ⟨hgb, i, none⟩ = some (.slice A3 m c3) ∧ w'.cell? ⟨sb, 0, none⟩ = some (.int .i64 y) ∧ w'.cell? ⟨sb, 1, none⟩ = some (.int .i64 z) ∧ w'.cell? ⟨sb, 2, none⟩ = some (.bool false)) rfl rfl (by kernel_rfl) (by kernel_rfl) (by kernel_rfl) rfl (by kernel_rfl) ⟨hcg5, hch5, hq0, hq1, hq2⟩ (fun hS0 => ?_)
        simp only [List.take_succ_cons, List.take_zero]
        refine Bk.takeD (i := 0) (some 49) (v := .pointer (some ⟨kb, 0, none⟩)) rfl rfl (by kernel_rfl) (by kernel_rfl) (by kernel_rfl) (fun _ _ _ h => h) (Or.inl ⟨by rfl, fun w' hS => by (try dsimp only at hS); go_simp⟩) hS0 ?_
        simp only [Act.put, List.setIfInBounds_toArray, List.set_cons_zero, List.set_cons_succ]
        refine Bk.takeD (i := 1) (some 50) (v := .pointer (some ⟨kb, 0, none⟩)) rfl rfl (by kernel_rfl) (by kernel_rfl) (by kernel_rfl) (fun _ _ _ h => h) (Or.inl ⟨by rfl, fun w' hS => by (try dsimp only at hS); go_simp⟩) hS0 ?_
        simp only [Act.put, List.setIfInBounds_toArray, List.set_cons_zero, List.set_cons_succ]
        refine Bk.takeD (i := 2) (some 51) (v := .pointer (some ⟨kb, 28, none⟩)) rfl rfl (by kernel_rfl) (by kernel_rfl) (by kernel_rfl) (fun _ _ _ h => h) (Or.inl ⟨by rfl, fun w' hS => by (try dsimp only at hS); go_simp⟩) hS0 ?_
        simp only [Act.put, List.setIfInBounds_toArray, List.set_cons_zero, List.set_cons_succ]
        refine Bk.takeD (i := 3) (some 52) (v := .slice (some ⟨hgb, 0, none⟩) M cg) rfl rfl (by kernel_rfl) (by kernel_rfl) (by kernel_rfl) (fun _ _ _ h => h) (Or.inl ⟨by rfl, fun w' hS => by (try dsimp only at hS); go_simp⟩) hS0 ?_
        simp only [Act.put, List.setIfInBounds_toArray, List.set_cons_zero, List.set_cons_succ]
        refine Bk.takeD (i := 4) (some 53) (v := .int .i64 (i : Int)) rfl rfl (by kernel_rfl) (by kernel_rfl) (by kernel_rfl) (fun _ _ _ h => h) (Or.inl ⟨by rfl, fun w' hS => by (try dsimp only at hS); go_simp⟩) hS0 ?_
        simp only [Act.put, List.setIfInBounds_toArray, List.set_cons_zero, List.set_cons_succ]
        refine Bk.takeD (i := 5) (some 54) (v := .pointer (some ⟨kb, 0, none⟩)) rfl rfl (by kernel_rfl) (by kernel_rfl) (by kernel_rfl) (fun _ _ _ h => h) (Or.inl ⟨by rfl, fun w' hS => by (try dsimp only at hS); go_simp⟩) hS0 ?_
        simp only [Act.put, List.setIfInBounds_toArray, List.set_cons_zero, List.set_cons_succ]
        refine Bk.takeD (i := 6) (some 55) (v := .pointer (some ⟨kb, 0, none⟩)) rfl rfl (by kernel_rfl) (by kernel_rfl) (by kernel_rfl) (fun _ _ _ h => h) (Or.inl ⟨by rfl, fun w' hS => by (try dsimp only at hS); go_simp⟩) hS0 ?_
        simp only [Act.put, List.setIfInBounds_toArray, List.set_cons_zero, List.set_cons_succ]
        refine Bk.takeD (i := 7) (some 56) (v := .pointer (some ⟨kb, 28, none⟩)) rfl rfl (by kernel_rfl) (by kernel_rfl) (by kernel_rfl) (fun _ _ _ h => h) (Or.inl ⟨by rfl, fun w' hS => by (try dsimp only at hS); go_simp⟩) hS0 ?_
        simp only [Act.put, List.setIfInBounds_toArray, List.set_cons_zero, List.set_cons_succ]
        refine Bk.takeD (i := 8) (some 57) (v := .slice (some ⟨hgb, 0, none⟩) M cg) rfl rfl (by kernel_rfl) (by kernel_rfl) (by kernel_rfl) (fun _ _ _ h => h) (Or.inl ⟨by rfl, fun w' hS => by (try dsimp only at hS); go_simp⟩) hS0 ?_
        simp only [Act.put, List.setIfInBounds_toArray, List.set_cons_zero, List.set_cons_succ]
        refine Bk.takeD (i := 9) (some 58) (v := .int .i64 (i : Int)) rfl rfl (by kernel_rfl) (by kernel_rfl) (by kernel_rfl) (fun _ _ _ h => h) (Or.inl ⟨by rfl, fun w' hS => by (try dsimp only at hS); go_simp⟩) hS0 ?_
        simp only [Act.put, List.setIfInBounds_toArray, List.set_cons_zero, List.set_cons_succ]
        refine Bk.takeD (i := 10) (some 59) (v := .pointer (some ⟨hgb, i, none⟩)) rfl rfl (by kernel_rfl) (by kernel_rfl) (by kernel_rfl) (fun _ _ _ h => h) (Or.inl ⟨by rfl, fun w' hS => by (try dsimp only at hS); go_simp⟩) hS0 ?_
        simp only [Act.put, List.setIfInBounds_toArray, List.set_cons_zero, List.set_cons_succ]
        refine Bk.takeD (i := 11) (some 60) (v := .slice A3 m c3) rfl rfl (by kernel_rfl) (by kernel_rfl) (by kernel_rfl) (fun _ _ _ h => h) (Or.inl ⟨by rfl, fun w' hS => by (try dsimp only at hS); go_simp⟩) hS0 ?_
        simp only [Act.put, List.setIfInBounds_toArray, List.set_cons_zero, List.set_cons_succ]
        refine Bk.takeD (i := 12) (some 61) (v := .agg #[.int .i64 y, .int .i64 z, .bool false]) rfl rfl (by kernel_rfl) (by kernel_rfl) (by kernel_rfl) (fun _ _ _ h => h) (Or.inl ⟨by rfl, fun w' hS => by (try dsimp only at hS); go_simp⟩) hS0 ?_
        simp only [Act.put, List.setIfInBounds_toArray, List.set_cons_zero, List.set_cons_succ]
        refine Bk.valD (i := 13) (some 62) (by kernel_rfl) rfl rfl rfl (v := .slice (some ⟨w5a.heap.size, 0, none⟩) 1 1) (w' := (w5a.alloc (.cells #[.int .i64 y, .int .i64 z, .bool false] 130)).drew) (by go_simp) (⟨hA1 _, hA2 _, hB0 _, hB1 _, hB2 _⟩) (fun hS1 => ?_)
        simp only [Act.put, List.setIfInBounds_toArray, List.set_cons_zero, List.set_cons_succ]
        refine Bk.appD (i := 14) (some 63) (by kernel_rfl) rfl rfl rfl _ _ 54 rfl 130 i0 _ 3 24 desc8 Hi.out hz0 hz1 hz2 rfl (by decide) (.slice A3 m c3) m (marks 8 p (id + (i : Int) + 1) m) rfl Hog5.out ⟨w5a.heap.size, 0, none⟩ 1 1 _ [.int .i64 y, .int .i64 z, .bool false] rfl (by decide) (by rfl) Hrd5.out (by intro u hu; simp at hu; rcases hu with rfl | rfl | rfl <;> rfl) (by have := Hmb.out; unfold maxLen; omega) (by have := Hmb.out; omega) ?_
        intro v6 w6 hown6 hold6 hkept6 hblk6; obtain ⟨A6, c6, rfl, _, _⟩ := own_hdr hown6.out; have hc6 := (hkept6.out.cell (o := 28) (Nat.lt_of_lt_of_le Hs5.out Hal.out.size) Hne1.out).trans (hA1 _); have hx6 := (hkept6.out.cell (o := i) (Nat.lt_of_lt_of_le Hs6.out Hal.out.size) Hne2.out).trans (hA2 _); have hf6 : w6.frozen? ⟨hgb, i, none⟩ = false := (World.frozen?_of_block (w := w5a) (a := ⟨hgb, i, none⟩) ((hkept6.out.block hgb (Nat.lt_of_lt_of_le Hs6.out Hal.out.size) Hne2.out).trans (Hal.out.block hgb Hs6.out))).trans Hfz.out; have hy0 := (hkept6.out.cell (o := 0) (Nat.lt_of_lt_of_le Hs7.out Hal.out.size) Hnsb.out).trans (hB0 _); have hy1 := (hkept6.out.cell (o := 1) (Nat.lt_of_lt_of_le Hs7.out Hal.out.size) Hnsb.out).trans (hB1 _); have hy2 := (hkept6.out.cell (o := 2) (Nat.lt_of_lt_of_le Hs7.out Hal.out.size) Hnsb.out).trans (hB2 _)
        refine ⟨⟨hc6, hx6, hy0, hy1, hy2⟩, fun hS2 => ?_⟩
        simp only [Act.put, List.setIfInBounds_toArray, List.set_cons_zero, List.set_cons_succ]
        refine Bk.takeD (i := 15) (some 64) (v := .pointer (some ⟨hgb, i, none⟩)) rfl rfl (by kernel_rfl) (by kernel_rfl) (by kernel_rfl) (fun _ _ _ h => h) (Or.inl ⟨by rfl, fun w' hS => by (try dsimp only at hS); go_simp⟩) hS2 ?_
        simp only [Act.put, List.setIfInBounds_toArray, List.set_cons_zero, List.set_cons_succ]
        refine wpAnyH_done (by kernel_rfl) ?_ _
        simp only [Bk.behind]
        clear hS0 hS1 hS2
        go_simp
        refine NoPanic.normal ?_
        all_goals (have HF := Lib.hid (Hin.out.step HlN.out Hvi.out Hgi.out Hn.out Hov.out Hog.out Hm.out Hb5.out Hal.out hkept6.out Hmk.out hown6.out hold6.out hblk6.out))
        all_goals (have HF2 := Lib.hid HF.out.drew)
        all_goals clear hcv hcg5 hch5 hA1 hA2 hc6 hx6 hf6 hown6 hold6 hkept6 hblk6 hq0 hB0 hy0 hq1 hB1 hy1 hq2 hB2 hy2
        all_goals go_wp2_with fail
        all_goals exact ⟨⟨i + 1, by congr 1; push_cast; omega, by congr 1, by omega, _, _, (by rw [Hl2.out]; first | exact HF.out | exact HF2.out)⟩, by simp [intOf]; omega⟩
    · obtain rfl : i = N := by omega
      go_wp2_with fail
      go_ret
      exact ⟨by rw [HN.out]; rfl, hgi, gsi, by
        have := Hin.out
        rw [show laidN t i i = i by unfold laidN; split <;> rfl] at this
        rw [HN.out]; exact this⟩
def ch3 (p : Int × Int × Bool) : Tx.Ch := ⟨p.1, p.2.1, p.2.2, 0⟩
theorem chs_ch3 (ps : List (Int × Int × Bool)) : chs (ps.map ch3) = ps.flatMap fun p => [.int .i64 p.1, .int .i64 p.2.1, .bool p.2.2] := by
  unfold chs; rw [List.flatMap_map]; rfl
theorem samek8 (A A' : Option Addr) (n c c' B : Nat) (ps : List (Int × Int × Bool)) (w : World) (hb : ps.length = n) (hc : n ≤ c) (hc' : n ≤ c') (hm : c ≤ maxLen) (hm' : c' ≤ maxLen) (hn : A = none → n = 0 ∧ c = 0) (hn' : A' = none → n = 0 ∧ c' = 0) (hr : Rd w B A (ps.flatMap fun p => [.int .i64 p.1, .int .i64 p.2.1, .bool p.2.2])) (hr' : Rd w B A' (ps.flatMap fun p => [.int .i64 p.1, .int .i64 p.2.1, .bool p.2.2])) (hB : B ≤ w.heap.size) :
    Calls Tryz.prog 61 #[.slice A n c, .slice A' n c'] w fun e w' => e = .returned (.bool true) ∧ Below w.heap.size w w' := by
  rw [← chs_ch3] at hr hr'
  refine (sameC_calls A A' n c n c' B B (ps.map ch3) (ps.map ch3) w (by simp [hb]) (by simp [hb]) hc hc' hm hm' hr hr').mono ?_
  rintro e w' ⟨rfl, k, rfl⟩
  exact ⟨by rw [decide_eq_true rfl], drewN_below _ _⟩
set_option maxRecDepth 20000 in
set_option maxHeartbeats 4000000 in
theorem untouched8_calls (kb : Nat) (b p : Int) (vs ws : List Value) (hv hw : Value) (U : Nat → Prop) (w : World) (hb : BkC w kb b p) (hk : KW w kb 8 vs ws hv hw) (hN : vs.length ≤ 1048576) (hl : ws.length = vs.length) (hs : ∀ (i : Nat) v, vs[i]? = some v → ∃ u, ws[i]? = some u ∧ Same 8 U w v u) :
    Calls Tryz.prog (uF 8) #[.pointer (some ⟨kb, 0, none⟩)] w fun e w' => e = .returned (.bool true) ∧ Below w.heap.size w w' := by
  obtain ⟨A, C, rfl, hNC, hCm⟩ := own_hdr hk.hvs.2
  obtain ⟨A2, C2, rfl, hNC2, hCm2⟩ := own_hdr hk.hws.2
  obtain ⟨N, hNv⟩ : ∃ N, vs.length = N := ⟨_, rfl⟩
  rw [hNv] at hNC hN hl
  rw [hl] at hNC2
  rw [hNv, hl] at hk
  unfold maxLen at hCm hCm2
  have Hb := Lib.hid hb; have Hk := Lib.hid hk; have HN := Lib.hid hNv; have Hl := Lib.hid hl; have Hs := Lib.hid hs
  have Hcm := Lib.hid hCm; have Hcm2 := Lib.hid hCm2
  clear hb hk hNv hl hs
  show Calls Tryz.prog 114 _ _ _
  go_enter Tryz.func114, Tryz.ntmps114
  go_wp2_with fail
  go_loopw [3] (fun iv wr => ∃ i : Nat, iv = .int .i64 (i : Int) ∧ i ≤ N ∧ Below w.heap.size w wr) (fun iv _ => N - (intOf iv).toNat)
  case atStart => exact ⟨0, rfl, by omega, Below.refl _ _⟩
  case round =>
    obtain ⟨i, rfl, hi, hbl⟩ := hrel
    have Hbl := Lib.hid hbl
    have hcv := (hbl.cell (p := ⟨kb, 26, none⟩) Hb.out.lt).trans Hk.out.hvs.1
    have hcw := (hbl.cell (p := ⟨kb, 27, none⟩) Hb.out.lt).trans Hk.out.hws.1
    clear hbl
    by_cases hlt : i < N
    · have q1 : (i : Int) < (N : Int) := by omega
      obtain ⟨v, hvi⟩ : ∃ v, vs[i]? = some v := ⟨vs[i]'(by rw [HN.out]; exact hlt), List.getElem?_eq_getElem _⟩
      obtain ⟨u, hui, hsame⟩ := Hs.out i v hvi
      obtain ⟨hb0, hoff, rfl, hbl0, hch⟩ := (own_rd Hk.out.hvs.2) i _ hvi
      obtain ⟨hb3, hoff3, rfl, hbl3, hch3⟩ := (own_rd Hk.out.hws.2) i _ hui
      have hch := (Hbl.out.cell (p := ⟨hb0, hoff + i, none⟩) hbl0).trans hch
      have hch3 := (Hbl.out.cell (p := ⟨hb3, hoff3 + i, none⟩) hbl3).trans hch3
      obtain ⟨_, n, xs, ys, hn, hov, hou, _, _, hcan⟩ := hsame
      obtain ⟨A4, c4, rfl, hc4, hcm4⟩ := own_hdr hov
      obtain ⟨A5, c5, rfl, hc5, hcm5⟩ := own_hdr hou
      obtain ⟨ps, hbs, rfl, rfl⟩ := hcan
      have Hov := Lib.hid hov; have Hou := Lib.hid hou; have Hbs := Lib.hid hbs; have Hn := Lib.hid hn; have Hc4 := Lib.hid hc4; have Hc5 := Lib.hid hc5; have Hm4 := Lib.hid hcm4; have Hm5 := Lib.hid hcm5
      clear hov hou hbs hn hc4 hc5 hcm4 hcm5 hvi hui
      have hst : (wr.drew.cell? ⟨kb, 26, none⟩ = some (.slice (some ⟨hb0, hoff, none⟩) N C) ∧ wr.drew.cell? ⟨kb, 27, none⟩ = some (.slice (some ⟨hb3, hoff3, none⟩) N C2) ∧ wr.drew.cell? ⟨hb0, hoff + i, none⟩ = some (.slice A4 n c4) ∧ wr.drew.cell? ⟨hb3, hoff3 + i, none⟩ = some (.slice A5 n c5)) ∧ Below wr.heap.size wr wr.drew := ⟨⟨hcv, hcw, hch, hch3⟩, (Below.refl _ _).drew⟩
      go_wp2_with fail
      go_region_held3 (fun w' => (w'.cell? ⟨kb, 26, none⟩ = some (.slice (some ⟨hb0, hoff, none⟩) N C) ∧ w'.cell? ⟨kb, 27, none⟩ = some (.slice (some ⟨hb3, hoff3, none⟩) N C2) ∧ w'.cell? ⟨hb0, hoff + i, none⟩ = some (.slice A4 n c4) ∧ w'.cell? ⟨hb3, hoff3 + i, none⟩ = some (.slice A5 n c5)) ∧ Below wr.heap.size wr w')
        ((rename (_ ∧ _) ∧ Below _ _ _ => hS; first
          | (with_reducible exact hS)
          | (exact hst)
          | (exact ut_keep hS hb2)))
        ((first
          | (go_at_call 61; rename (_ ∧ _) ∧ Below _ _ _ => hS; refine (samek8 A4 A5 n c4 c5 w.heap.size ps _ Hbs.out Hc4.out Hc5.out Hm4.out Hm5.out (own_nil1 Hov.out) (own_nil1 Hou.out) (((own_rd Hov.out).below Hbl.out (Nat.le_refl _)).below hS.2 Hbl.out.size) (((own_rd Hou.out).below Hbl.out (Nat.le_refl _)).below hS.2 Hbl.out.size) (Nat.le_trans Hbl.out.size hS.2.size)).mono ?_; rintro e w2 he2; obtain ⟨rfl, hb2⟩ := he2)))
      rename (_ ∧ _) ∧ Below _ _ _ => hF
      have HF := Lib.hid (Hbl.out.trans (hF.2.mono Hbl.out.size))
      clear hF hcv hcw hch hch3 hst
      go_wp2_with fail
      exact ⟨⟨i + 1, by congr 1, by omega, HF.out⟩, by simp [intOf]; omega⟩
    · obtain rfl : i = N := by omega
      go_wp2_with fail
      go_ret
      exact ⟨rfl, Hbl.out⟩
theorem kind8 : KindOK 8 (fun _ => True) where
  untouched := fun kb b p vs ws hv hw U w _ hb hk hN hl hs => untouched8_calls kb b p vs ws hv hw U w hb hk hN hl hs
  write := fun kb b p id vs gs hv hg w _ hb hk hr ha hN h0 h1 => write8_calls kb b p id vs gs hv hg w hb hk hr ha hN h0 h1
  hold := fun kb b p id vs gs hv hg w _ hb hk hs hsg hN h0 h1 => hold8_calls kb b p id vs gs hv hg w hb hk hs hsg hN h0 h1
  grow := fun kb t b p id vs gs hv hg w _ ht hb hk hgl hgr hap hN h0 h1 => grow8_calls kb t b p id vs gs hv hg w ht hb hk hgl hgr hap hN h0 h1
theorem copyk8 (A : Option Addr) (n c B : Nat) (zs : List (Int × Int × Bool)) (w : World) (hb : zs.length = n) (hm : n ≤ 1099511627776) (hn : A = none → n = 0 ∧ c = 0) (hr : Rd w B A (zs.flatMap fun p => [.int .i64 p.1, .int .i64 p.2.1, .bool p.2.2])) (hB : B ≤ w.heap.size) :
    Calls Tryz.prog 71 #[.slice A n c] w fun e w' => ∃ A' c', e = .returned (.slice A' n c') ∧ w'.ownsRow w.heap.size 130 3 (.slice A' n c') n (zs.flatMap fun p => [.int .i64 p.1, .int .i64 p.2.1, .bool p.2.2]) ∧ Below w.heap.size w w' := by
  rw [← chs_ch3] at hr ⊢
  exact changes_calls A n c B (zs.map ch3) w (by simp [hb]) hm hB hr
set_option maxRecDepth 20000 in
set_option maxHeartbeats 8000000 in
theorem keep8_calls (kb : Nat) (vs ws : List Value) (hv hw : Value) (A : Option Addr) (n cap : Nat) (xs : List (Int × Int × Bool)) (w : World) (hb : BkC w kb 0 0) (hk : KW w kb 8 vs ws hv hw) (hN : vs.length ≤ 1048576) (hwl : ws.length = vs.length) (hxl : xs.length = n) (hnm : n ≤ 1099511627776) (hl : w.ownsRow 0 (eT 8) (sz 8) (.slice A n cap) n (xs.flatMap fun p => [.int .i64 p.1, .int .i64 p.2.1, .bool p.2.2])) :
    Calls Tryz.prog 18 #[.pointer (some ⟨kb, 0, none⟩), .slice A n cap] w (KeepRaw (fun _ => False) w kb 8 vs ws hv hw (.slice A n cap)) := by
  obtain ⟨iS, hiS, hzS0, hzS1, hzS2⟩ := info_parts infoS8
  obtain ⟨A2, C2, rfl, hc2, hm2⟩ := own_hdr hk.hvs.2
  obtain ⟨A3, C3, rfl, hc3, hm3⟩ := own_hdr hk.hws.2
  obtain ⟨N, hNv⟩ : ∃ N, vs.length = N := ⟨_, rfl⟩
  have hwN : ws.length = N := hwl.trans hNv
  rw [hNv, hwN] at hk
  rw [hNv, hwN]
  rw [hNv] at hN
  have hov1 : w.ownsRow 0 (sT 8) 1 (.slice A2 N C2) N vs := by have := hk.hvs.2; rw [hNv] at this; exact this
  have hov2 : w.ownsRow 0 (sT 8) 1 (.slice A3 N C3) N ws := by have := hk.hws.2; rw [hwN] at this; exact this
  have hcv := hk.hvs.1
  have hcw := hk.hws.1
  have hA3 : ∀ O, (w.alloc O).cell? ⟨kb, 26, none⟩ = _ := fun O => (cell_alloc_lt (w := w) O (cell_lt hcv)).trans hcv
  have Hal := Lib.hid (show Below w.heap.size w (w.alloc (.cells #[.slice A n cap] 54)) from (Below.refl w.heap.size w).alloc (Nat.le_refl _) _)
  have Hog := Lib.hid (show (w.alloc (.cells #[.slice A n cap] 54)).ownsRow 0 54 1 (.slice A2 N C2) N vs from own_below_any hov1 Hal.out)
  have Hrd0 := Lib.hid (rd_alloc w #[.slice A n cap] 54 [.slice A n cap] rfl)
  have Hne := Lib.hid (show ¬ (Value.slice A2 N C2).ownBlock = some kb from hb.not hov1 (sT_book 8))
  have Hb := Lib.hid hb; have Hk := Lib.hid hk; have HN := Lib.hid hNv; have HW := Lib.hid hwN; have Hl := Lib.hid hl; have Hx := Lib.hid hxl; have HiS := Lib.hid hiS; have Hov1 := Lib.hid hov1; have Hov2 := Lib.hid hov2; have Hnm := Lib.hid hnm
  clear hb hk hNv hwl hwN hc2 hm2 hc3 hm3 hl hxl hiS hov1 hov2 hnm
  go_enter Tryz.func18, Tryz.ntmps18
  go_wp2_with (at_builtin; refine wpList_append_two rfl _ _ 34 rfl 54 iS _ 1 24 descS8 HiS.out hzS0 hzS1 hzS2 rfl (by decide) (.slice A2 N C2) N vs rfl Hog.out (some ⟨w.heap.size, 0, none⟩) 1 1 _ [.slice A n cap] rfl (by decide) (by rfl) Hrd0.out (by intro u hu; simp at hu; subst hu; rfl) (by unfold maxLen; omega) (by omega) ?_; intro v6 w6 hown6 hold6 hkept6 hblk6; obtain ⟨A6, c6, rfl, _, _⟩ := own_hdr hown6; have hx6 := (hkept6.cell (o := 26) (Nat.lt_of_lt_of_le Hb.out.lt Hal.out.size) Hne.out).trans (hA3 _); have hf6 : w6.frozen? ⟨kb, 26, none⟩ = false := (World.frozen?_of_block (w := w) (a := ⟨kb, 26, none⟩) ((hkept6.block kb (Nat.lt_of_lt_of_le Hb.out.lt Hal.out.size) Hne.out).trans (Hal.out.block kb Hb.out.lt))).trans (Hb.out.fz _); have Hp := Lib.hid (Hd.push Hb.out Hk.out.hvs (sT_book 8) (by decide) (by decide) Hal.out hkept6 (by rw [HN.out]; exact hown6) hblk6); clear hown6 hold6 hkept6 hblk6)
  have hcw7 := (Hp.out.2.2.2.1 27 (by decide)).trans hcw
  have Hb7 := Lib.hid Hp.out.2.1
  have Hl7 := Lib.hid (own_kept Hl.out Hp.out.2.2.1 (fun g hg he => by
    rcases he with he | he
    · subst he; exact Hb.out.not Hl.out (eT_book 8) hg
    · exact own_apart Hl.out Hk.out.hvs.2 (Ne.symm (sT_eT 8)) hg he))
  have Hw7 := Lib.hid (own_kept Hov2.out Hp.out.2.2.1 (fun g hg he => by
    rcases he with he | he
    · subst he; exact Hb.out.not Hov2.out (sT_book 8) hg
    · exact Hk.out.sep g he hg))
  clear hcv hcw hA3 hx6 hf6
  generalize w6.setCell ⟨kb, 26, none⟩ (.slice A6 (N + 1) c6) = w7 at *
  have Hne7 := Lib.hid (show ¬ (Value.slice A3 N C3).ownBlock = some kb from Hb7.out.not Hw7.out (sT_book 8))
  refine Bk.region_front2 (n := 11) (S := fun w' => w'.cell? ⟨kb, 27, none⟩ = some (.slice A3 N C3) ∧ True) rfl rfl (by kernel_rfl) (by kernel_rfl) (by kernel_rfl) rfl (by kernel_rfl) ⟨hcw7, trivial⟩ (fun hS0 => ?_)
  simp only [List.take_succ_cons, List.take_zero]
  refine Bk.takeD (i := 0) (some 14) (v := .pointer (some ⟨kb, 0, none⟩)) rfl rfl (by kernel_rfl) (by kernel_rfl) (by kernel_rfl) (fun _ _ _ h => h) (Or.inl ⟨by rfl, fun w' hS => by (try dsimp only at hS); go_simp⟩) hS0 ?_
  simp only [Act.put, List.setIfInBounds_toArray, List.set_cons_zero, List.set_cons_succ]
  refine Bk.takeD (i := 1) (some 15) (v := .pointer (some ⟨kb, 0, none⟩)) rfl rfl (by kernel_rfl) (by kernel_rfl) (by kernel_rfl) (fun _ _ _ h => h) (Or.inl ⟨by rfl, fun w' hS => by (try dsimp only at hS); go_simp⟩) hS0 ?_
  simp only [Act.put, List.setIfInBounds_toArray, List.set_cons_zero, List.set_cons_succ]
  refine Bk.takeD (i := 2) (some 16) (v := .pointer (some ⟨kb, 0, none⟩)) rfl rfl (by kernel_rfl) (by kernel_rfl) (by kernel_rfl) (fun _ _ _ h => h) (Or.inl ⟨by rfl, fun w' hS => by (try dsimp only at hS); go_simp⟩) hS0 ?_
  simp only [Act.put, List.setIfInBounds_toArray, List.set_cons_zero, List.set_cons_succ]
  refine Bk.takeD (i := 3) (some 17) (v := .pointer (some ⟨kb, 27, none⟩)) rfl rfl (by kernel_rfl) (by kernel_rfl) (by kernel_rfl) (fun _ _ _ h => h) (Or.inl ⟨by rfl, fun w' hS => by (try dsimp only at hS); go_simp⟩) hS0 ?_
  simp only [Act.put, List.setIfInBounds_toArray, List.set_cons_zero, List.set_cons_succ]
  refine Bk.takeD (i := 4) (some 18) (v := .slice A3 N C3) rfl rfl (by kernel_rfl) (by kernel_rfl) (by kernel_rfl) (fun _ _ _ h => h) (Or.inl ⟨by rfl, fun w' hS => by (try dsimp only at hS); go_simp⟩) hS0 ?_
  simp only [Act.put, List.setIfInBounds_toArray, List.set_cons_zero, List.set_cons_succ]
  refine Bk.takeD (i := 5) (some 19) (v := .slice A n cap) rfl rfl (by kernel_rfl) (by kernel_rfl) (by kernel_rfl) (fun _ _ _ h => h) (Or.inl ⟨by rfl, fun w' hS => by (try dsimp only at hS); go_simp⟩) hS0 ?_
  simp only [Act.put, List.setIfInBounds_toArray, List.set_cons_zero, List.set_cons_succ]
  refine Bk.calD (i := 6) (some 20) (by kernel_rfl) rfl rfl rfl (f := 71) (args := #[.slice A n cap]) (by go_simp) (copyk8 A n cap w7.heap.size xs _ Hx.out Hnm.out (own_nil1 Hl7.out) ((own_rd Hl7.out).below (Below.refl _ _).drew (Nat.le_refl _)) (Nat.le_refl _)) ?_
  rintro e w8 ⟨A8, c8, rfl, hown8, hb8'⟩; have hb8 : Below w7.heap.size w7 w8 := ⟨hb8'.os, hb8'.tape, hb8'.output, hb8'.size, hb8'.block⟩; have hcw8 := (hb8.cell (p := ⟨kb, 27, none⟩) (cell_lt hcw7)).trans hcw7; have hA8 : ∀ O, (w8.alloc O).cell? ⟨kb, 27, none⟩ = _ := fun O => (cell_alloc_lt (w := w8) O (cell_lt hcw8)).trans hcw8; have Hal8 := Lib.hid (show Below w8.heap.size w8 (w8.alloc (.cells #[.slice A8 n c8] 54)) from (Below.refl w8.heap.size w8).alloc (Nat.le_refl _) _); have Hog8 := Lib.hid (show (w8.alloc (.cells #[.slice A8 n c8] 54)).ownsRow 0 54 1 (.slice A3 N C3) N ws from own_below_any (own_below_any Hw7.out hb8) Hal8.out); have Hrd8 := Lib.hid (rd_alloc w8 #[.slice A8 n c8] 54 [.slice A8 n c8] rfl); clear hb8'
  refine ⟨_, rfl, ⟨hcw8, trivial⟩, fun hS1 => ?_⟩
  simp only [Act.put, List.setIfInBounds_toArray, List.set_cons_zero, List.set_cons_succ]
  refine Bk.valD (i := 7) (some 21) (by kernel_rfl) rfl rfl rfl (v := .slice (some ⟨w8.heap.size, 0, none⟩) 1 1) (w' := w8.alloc (.cells #[.slice A8 n c8] 54)) (by go_simp) (⟨hA8 _, trivial⟩) (fun hS2 => ?_)
  simp only [Act.put, List.setIfInBounds_toArray, List.set_cons_zero, List.set_cons_succ]
  refine Bk.appD (i := 8) (some 22) (by kernel_rfl) rfl rfl rfl _ _ 34 rfl 54 iS _ 1 24 descS8 HiS.out hzS0 hzS1 hzS2 rfl (by decide) (.slice A3 N C3) N ws rfl Hog8.out ⟨w8.heap.size, 0, none⟩ 1 1 _ [.slice A8 n c8] rfl (by decide) (by rfl) Hrd8.out (by intro u hu; simp at hu; subst hu; rfl) (by unfold maxLen; omega) (by omega) ?_
  intro v9 w9 hown9 hold9 hkept9 hblk9; obtain ⟨A9, c9, rfl, _, _⟩ := own_hdr hown9.out; have hx9 := (hkept9.out.cell (o := 27) (Nat.lt_of_lt_of_le (cell_lt hcw8) Hal8.out.size) Hne7.out).trans (hA8 _); have hf9 : w9.frozen? ⟨kb, 27, none⟩ = false := (World.frozen?_of_block (w := w7) (a := ⟨kb, 27, none⟩) ((hkept9.out.block kb (Nat.lt_of_lt_of_le (cell_lt hcw8) Hal8.out.size) Hne7.out).trans ((Hal8.out.block kb (cell_lt hcw8)).trans (hb8.block kb Hb7.out.lt)))).trans (Hb7.out.fz _)
  refine ⟨⟨hx9, trivial⟩, fun hS3 => ?_⟩
  simp only [Act.put, List.setIfInBounds_toArray, List.set_cons_zero, List.set_cons_succ]
  refine Bk.takeD (i := 9) (some 23) (v := .pointer (some ⟨kb, 0, none⟩)) rfl rfl (by kernel_rfl) (by kernel_rfl) (by kernel_rfl) (fun _ _ _ h => h) (Or.inl ⟨by rfl, fun w' hS => by (try dsimp only at hS); go_simp⟩) hS3 ?_
  simp only [Act.put, List.setIfInBounds_toArray, List.set_cons_zero, List.set_cons_succ]
  refine Bk.takeD (i := 10) (some 24) (v := .pointer (some ⟨kb, 27, none⟩)) rfl rfl (by kernel_rfl) (by kernel_rfl) (by kernel_rfl) (fun _ _ _ h => h) (Or.inl ⟨by rfl, fun w' hS => by (try dsimp only at hS); go_simp⟩) hS3 ?_
  simp only [Act.put, List.setIfInBounds_toArray, List.set_cons_zero, List.set_cons_succ]
  refine wpAnyH_done (by kernel_rfl) ?_ _
  simp only [Bk.behind]
  clear hS0 hS1 hS2 hS3
  go_simp
  refine NoPanic.normal ?_
  all_goals
    have HR := Lib.hid (keepRaw_of (D := fun _ => False) Hb.out Hk.out (by decide) (by decide) Hnm.out Hp.out Hl.out hb8 hown8 Hal8.out hkept9.out (by rw [HW.out]; exact hown9.out) hblk9.out (fun U _ _ => ⟨xs, Hx.out, rfl, rfl⟩))
    clear hcw7 hcw8 hA8 hx9 hf9 hown9 hold9 hkept9 hblk9 hown8 hb8
    go_wp2_with fail
    exact bodyPost_ret (results_none rfl _ _ _) rfl HR.out
/-- One list more is kept: what a law asks. -/
theorem keepIs8 {used : Nat → Bool} {kb N : Nat} {U : Nat → Prop} (hu : used 8 = true) (base : Nat) (A : Option Addr) (n cap : Nat) (xs : List (Int × Int × Bool)) (w : World) (h : Is used w kb U N) (hN : N ≤ 1000000) (hxl : xs.length = n) (hnm : n ≤ 1099511627776)
    (hl : w.ownsRow base (eT 8) (sz 8) (.slice A n cap) n (xs.flatMap fun p => [.int .i64 p.1, .int .i64 p.2.1, .bool p.2.2])) (hfree : ∀ g, (Value.slice A n cap).ownBlock = some g → ¬ U g) :
    Calls Tryz.prog 18 #[.pointer (some ⟨kb, 0, none⟩), .slice A n cap] w fun e w' => e = .returned (.tuple #[]) ∧ Is used w' kb (more U w w' (.slice A n cap)) (N + 1) ∧ Kept U w w' := by
  obtain ⟨vs, ws, hv, hw, h⟩ := h
  have h17 : 8 < 17 := by decide
  have hl0 := own_zero hl
  refine (keep8_calls kb (vs 8) (ws 8) (hv 8) (hw 8) A n cap xs w h.bk (h.k 8 h17) (by have := h.few 8 h17; omega) (h.len 8 h17) hxl hnm hl0).mono ?_
  intro e w' hr
  exact h.push h17 hu (by decide) hl0 hfree (D := fun _ => False) (fun _ h => h.elim) hr
end Bk
end Go.Proofs.YtmeoafodcniliaaGreatDoor
