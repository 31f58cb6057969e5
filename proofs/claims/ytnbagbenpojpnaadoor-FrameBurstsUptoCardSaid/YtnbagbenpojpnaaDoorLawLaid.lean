/- FrameLaid: the walk -/
import Derived.Test.YtnbagbenpojpnaaDoorLawDec
namespace Go.Proofs.YtnbagbenpojpnaaDoor
open Go.RowKit
set_option linter.unusedSimpArgs false
set_option linter.unusedVariables false
attribute [local go_sem ↓] loadF storeF
attribute [local go_sem] isLoadOf loadArg isRowAt_ptr rowAt_ptr blkOf_ptr aggOf_agg isAggV_agg isRow_alloc_new pair_cells
theorem quiet_num (x : Int) (w : World) (m : Nat) (h0 : 0 ≤ x) (h1 : x ≤ 100) :
    Calls Tryd.prog 16 #[.int .i64 x] (w.drewN m) fun e w'' => e = .returned (.int .i64 x) ∧ ∃ k, w'' = w.drewN k :=
  (num_calls x (w.drewN m) h0 h1).mono fun _ _ ⟨he, hw⟩ => ⟨he, m, hw.symm⟩
theorem quiet_same (A A' : Option Addr) (n cap n' cap' B B' m : Nat) (bs bs' : List (BitVec 8)) (w : World) (hn : n = bs.length) (hn' : n' = bs'.length) (hnil : A = none → n = 0) (hnil' : A' = none → n' = 0)
    (hr : Rd w B A (bs.map V8)) (hr' : Rd w B' A' (bs'.map V8)) :
    Calls Tryd.prog 15 #[.slice A n cap, .slice A' n' cap'] (w.drewN m) fun e w'' => e = .returned (.bool (decide (bs = bs'))) ∧ ∃ k, w'' = w.drewN k :=
  (same_calls A A' n cap n' cap' B B' bs bs' (w.drewN m) hn hn' hnil hnil' hr hr').mono fun _ _ ⟨he, hw⟩ => ⟨he, m, hw.symm⟩
theorem wrap_len (bs : List (BitVec 8)) (n : Nat) (hn : n = bs.length) (hm : n ≤ 1024) : wrap64 (wrap64 (wrap64 (n8 (BitVec.ofNat 8 (bs.length / 256)) : Int) * 256) + wrap64 (n8 (BitVec.ofNat 8 bs.length) : Int)) = (n : Int) := by
  have e : n8 (BitVec.ofNat 8 (bs.length / 256)) * 256 + n8 (BitVec.ofNat 8 bs.length) = n := by
    unfold n8; rw [BitVec.toNat_ofNat, BitVec.toNat_ofNat]; omega
  have h1 := n8_lt (BitVec.ofNat 8 (bs.length / 256)); have h2 := n8_lt (BitVec.ofNat 8 bs.length)
  rw [wrap_n8, wrap_n8]
  generalize n8 (BitVec.ofNat 8 (bs.length / 256)) = x at *
  generalize n8 (BitVec.ofNat 8 bs.length) = y at *
  subst e; clear hn; unfold wrap64; omega
theorem enc_mid (k : BitVec 8) (p : List (BitVec 8)) : ((Fr.encode k p).drop 8).take p.length = p := by
  unfold Fr.encode; rw [List.append_assoc, List.drop_left' (Fr.head_length _ _), List.take_left' rfl]
theorem enc_top (k : BitVec 8) (p : List (BitVec 8)) : (Fr.encode k p).take 8 = Fr.h4 k p.length ++ Crc.be (Crc.sum (Fr.h4 k p.length)) := by
  unfold Fr.encode; rw [List.append_assoc, List.take_left' (Fr.head_length _ _)]; rfl
theorem enc_end (k : BitVec 8) (p : List (BitVec 8)) : (Fr.encode k p).drop 8 = p ++ Crc.be (Crc.sum p) := by
  unfold Fr.encode; rw [List.append_assoc, List.drop_left' (Fr.head_length _ _)]
theorem sum_top (k : BitVec 8) (p : List (BitVec 8)) : Crc.sum ((Fr.encode k p).take 8) = 0x38FB2284#32 := by rw [enc_top, Crc.sum_behind]
theorem sum_end (k : BitVec 8) (p : List (BitVec 8)) : Crc.sum ((Fr.encode k p).drop 8) = 0x38FB2284#32 := by rw [enc_end, Crc.sum_behind]
theorem not_more {n : Nat} (h : n ≤ 1024) : ¬ (1024 : Int) < (n : Int) := by omega
set_option maxHeartbeats 2000000 in
theorem law_laid (k : Int) (A : Option Addr) (n cap : Nat) (bs : List (BitVec 8)) (w : World) (ha : In8 w A n cap bs) (ht : TabIn w) :
    Calls Tryd.prog 6 #[VF k A n cap] w fun e w' => e = .returned (.bool true) ∧ Below w.heap.size w w' := by
  obtain ⟨hn, hc, hcm, hnil, hr⟩ := ha
  have Hn := Lib.hid hn; have Hnil := Lib.hid hnil; have Hr := Lib.hid hr; have Ht := Lib.hid ht
  unfold maxLen at hcm
  clear hn hnil hr ht
  go_enter Tryd.func6, Tryd.ntmps6
  go_wp2_with fail
  have hb0 := heap_alloc_new w (Obj.cells #[Value.int IntKind.i64 k, Value.slice A n cap] 24)
  have hal : Below w.heap.size w (w.alloc (Obj.cells #[Value.int IntKind.i64 k, Value.slice A n cap] 24)) := (Below.refl _ _).alloc (Nat.le_refl _) _
  generalize w.alloc (Obj.cells #[Value.int IntKind.i64 k, Value.slice A n cap] 24) = W at *
  have hsW := lt_heap hb0
  refine (first_calls W (tabIn_of Ht.out hal)).mono ?_
  rintro e w1 ⟨rfl, hb1⟩
  have hs1 := hb1.size
  have hbox := (hb1.block _ hsW).trans hb0
  have Hb1 := Lib.hid (hal.trans (hb1.mono (by omega)))
  have hrow1 : IsRow w1 w.heap.size 24 2 := ⟨_, hbox, rfl⟩
  have hro1 : rowOf w1 w.heap.size = #[.int .i64 k, .slice A n cap] := rowOf_eq hbox
  have Hbox := Lib.hid hbox
  clear hb0 hal hb1 hbox
  go_wp2_with fail
  refine (encode_any k A n cap w.heap.size bs w1 Hn.out (Hr.out.below Hb1.out (Nat.le_refl _)) Hb1.out.size (tabIn_of Ht.out Hb1.out)).mono ?_
  rintro e w2 ⟨hb2, A2, cap2, rfl, hown2⟩
  have hbx2 := (hb2.block _ (by omega)).trans Hbox.out
  have c0 : w2.cell? ⟨w.heap.size, 0, none⟩ = some (.int .i64 k) := by rw [cell_heap hbx2]; rfl
  have c1 : w2.cell? ⟨w.heap.size, 1, none⟩ = some (.slice A n cap) := by rw [cell_heap hbx2]; rfl
  have Hb2 := Lib.hid (Hb1.out.trans (hb2.mono Hb1.out.size))
  have Hown2 := Lib.hid hown2
  clear hown2 hb2 hrow1 hro1 Hbox hbx2
  cases hk : isK k with
  | false =>
    have hl : encL k bs = [] := by unfold encL; rw [if_neg (by rw [hk]; simp)]
    have he : encE k bs = 30 := by unfold encE; rw [hk]; rfl
    rw [hl, he]
    rcases isK_not k hk with h | ⟨h1, h2⟩
    · clear hl he hk Hown2
      go_wp2_with (go_at_call 16; refine (num_calls 30 _ (by omega) (by omega)).mono ?_; rintro e w' ⟨rfl, rfl⟩)
      go_ret
      exact ⟨rfl, Hb2.out⟩
    · clear hl he hk Hown2
      go_wp2_with (go_at_call 16; refine (num_calls 30 _ (by omega) (by omega)).mono ?_; rintro e w' ⟨rfl, rfl⟩)
      go_ret
      exact ⟨rfl, Hb2.out⟩
  | true =>
    obtain ⟨g1, g2⟩ := isK_range k hk
    by_cases hm : n ≤ 1024
    · have hkb := kb_of hk
      obtain ⟨kb, ekb⟩ : ∃ kb, kb = BitVec.ofInt 8 k := ⟨_, rfl⟩
      have hl : encL k bs = Fr.encode kb bs := by unfold encL; rw [if_pos ⟨hk, by have := Hn.out; omega⟩, ekb]
      have he : encE k bs = 0 := by unfold encE; rw [if_pos hk, if_pos (by have := Hn.out; omega)]
      have hle : (Fr.encode kb bs).length = n + 12 := by rw [Fr.encode_length, ← Hn.out]
      rw [← ekb] at hkb
      have Hown := Lib.hid (show w2.ownsRow w1.heap.size 5 1 (.slice A2 (n + 12) cap2) (n + 12) ((Fr.encode kb bs).map V8) by rw [← hle, ← hl]; exact Hown2.out)
      rw [hl, he, hle]
      obtain ⟨g, rfl, hcap⟩ := own_some Hown.out (by omega)
      have Hrd := Lib.hid (own_rd Hown.out)
      have hcell : ∀ (i : Nat) (v : Value), ((Fr.encode kb bs).map V8)[i]? = some v → w2.cell? ⟨g, i, none⟩ = some v := fun i v hv => by
        obtain ⟨b', o', e', _, c'⟩ := Hrd.out i v hv
        injection e' with e'; injection e' with e1 e2; subst e1; subst e2; rw [Nat.zero_add] at c'; exact c'
      have d0 : w2.cell? ⟨g, 0, none⟩ = some (.int .u8 112) := hcell 0 _ rfl
      have d1 : w2.cell? ⟨g, 1, none⟩ = some (V8 kb) := hcell 1 _ rfl
      have d2 : w2.cell? ⟨g, 2, none⟩ = some (V8 (BitVec.ofNat 8 (bs.length / 256))) := hcell 2 _ rfl
      have d3 : w2.cell? ⟨g, 3, none⟩ = some (V8 (BitVec.ofNat 8 bs.length)) := hcell 3 _ rfl
      have hkw : wrap64 (n8 kb : Int) = k := by rw [wrap_n8]; exact hkb.symm
      have hnw := wrap_len bs n Hn.out hm
      have Hkb := Lib.hid hkb; have Hhl := Lib.hid hle
      have hmi : ¬ (1024 : Int) < (n : Int) := not_more hm
      clear hl he hk Hown2 hkb hcell hle ekb
      go_wp2_with (go_at_call 16; refine (num_calls 0 _ (by omega) (by omega)).mono ?_; rintro e w' ⟨rfl, rfl⟩)
      go_quiet ((go_at_call 16; exact quiet_num 0 _ _ (by omega) (by omega)))
      have hbq : Below w.heap.size w (w2.drewN nq) := below_drewN Hb2.out nq
      have e1 : (w2.drewN nq).cell? ⟨w.heap.size, 1, none⟩ = some (.slice A n cap) := c1
      have hrq : Rd (w2.drewN nq) w2.heap.size (some ⟨g, 0, none⟩) ((Fr.encode kb bs).map V8) := Hrd.out
      clear c0 c1 d0 d1 d2 d3 hkw hnw Hb2 Hown Hrd g1 g2 hmi
      generalize w2.drewN nq = w3 at *
      obtain ⟨q, eq⟩ : ∃ q, q = 8 + n := ⟨_, rfl⟩
      have hwq : wrap64 (8 + (n : Int)) = (q : Int) := by unfold wrap64; omega
      have i1 : (8 : Int) ≤ (q : Int) := by omega
      have i2 : (q : Int) ≤ (cap2 : Int) := by omega
      have hmx : max (q : Int) 0 = (q : Int) := by omega
      have hq8 : q - 8 = n := by omega
      have hqc : (cap2 = 8) = False := by rw [eq_iff_iff]; constructor <;> intro hx <;> first | omega | cases hx
      have hrm := rd_sub8 hrq 8 bs.length
      rw [enc_mid] at hrm
      have Hrm := Lib.hid hrm; have Hrp := Lib.hid (Hr.out.below hbq (Nat.le_refl _)); have Hbq := Lib.hid hbq; have Hrq := Lib.hid hrq
      clear hrm hbq hrq eq
      go_wp2_with fail
      go_quiet ((go_at_call 15; exact quiet_same _ _ _ _ _ _ _ _ _ bs bs _ Hn.out Hn.out (by intro hx; cases hx) (fun hx => (Hnil.out hx).1) Hrm.out Hrp.out))
      have hb4 : Below w.heap.size w (w3.drewN nq) := below_drewN Hbq.out nq
      have hr4 : Rd (w3.drewN nq) w2.heap.size (some ⟨g, 0, none⟩) ((Fr.encode kb bs).map V8) := Hrq.out
      clear e1 hwq i1 i2 hmx hq8 Hrm Hrp Hbq Hrq
      generalize w3.drewN nq = w4 at *
      have Hb4 := Lib.hid hb4; have Hr4 := Lib.hid hr4
      clear hb4 hr4
      have j1 : (8 : Int) ≤ (cap2 : Int) := by omega
      have j2 : (8 : Int) ≤ ((n + 12 : Nat) : Int) := by omega
      rw [decide_eq_true rfl]
      go_wp2_with fail
      refine (rsum_calls (some ⟨g, 0, none⟩) 8 cap2 _ ((Fr.encode kb bs).take 8) w4 (by rw [List.length_take, Hhl.out]; omega) (by decide) (rd_take8 Hr4.out 8)).mono ?_
      rintro e w' ⟨rfl, rfl⟩
      rw [sum_top]
      go_wp2_with fail
      refine (rsum_calls _ _ _ _ ((Fr.encode kb bs).drop 8) w4 (by rw [List.length_drop, Hhl.out]; omega) (by unfold maxLen; omega) (rd_drop8 Hr4.out 8)).mono ?_
      rintro e w' ⟨rfl, rfl⟩
      rw [sum_end]
      go_wp2_with fail
      go_ret
      exact ⟨rfl, Hb4.out⟩
    · have hl : encL k bs = [] := by unfold encL; rw [if_neg (by have := Hn.out; omega)]
      have he : encE k bs = 31 := by unfold encE; rw [if_pos hk, if_neg (by have := Hn.out; omega)]
      rw [hl, he]
      have hmi : (1024 : Int) < (n : Int) := by omega
      clear hl he hk Hown2
      go_wp2_with (go_at_call 16; refine (num_calls 31 _ (by omega) (by omega)).mono ?_; rintro e w' ⟨rfl, rfl⟩)
      go_ret
      exact ⟨rfl, Hb2.out⟩
end Go.Proofs.YtnbagbenpojpnaaDoor
