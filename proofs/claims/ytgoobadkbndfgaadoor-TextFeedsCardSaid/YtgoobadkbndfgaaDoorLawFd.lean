/- TextFeeds -/
import Derived.Test.YtgoobadkbndfgaaDoorFdD
import Derived.Test.YtgoobadkbndfgaaDoorLift
import Derived.Deep.DeepCutAuto
namespace Go.Proofs.YtgoobadkbndfgaaDoor
open Go.RowKit Go.ChangeShapes Go.WideShapes Go.ChangeAt
set_option linter.unusedSimpArgs false
set_option linter.unusedVariables false
def vs4 : Array Value := #[.int .u8 118, .int .u8 101, .int .u8 114, .int .u8 116, .int .u8 105, .int .u8 99, .int .u8 101, .int .u8 115, .int .u8 32, .int .u8 49, .int .u8 10]
def bs4 : List (BitVec 8) := [118#8, 101#8, 114#8, 116#8, 105#8, 99#8, 101#8, 115#8, 32#8, 49#8, 10#8]
set_option maxHeartbeats 8000000 in
set_option maxRecDepth 40000 in
theorem law_feeds (A : Option Addr) (n cap : Nat) (bs : List (BitVec 8)) (A1 : Option Addr) (n1 cap1 : Nat) (cs : List (BitVec 8)) (A2 : Option Addr) (n2 cap2 : Nat) (zs : List Int) (w : World) (hn : n = bs.length) (hcap : n ≤ cap) (hcm : cap ≤ maxLen) (hnil : A = none → n = 0 ∧ cap = 0) (hr : Rd w w.heap.size A (bs.map V8))
    (hn1 : n1 = cs.length) (hcap1 : n1 ≤ cap1) (hcm1 : cap1 ≤ maxLen) (hnil1 : A1 = none → n1 = 0 ∧ cap1 = 0) (hr1 : Rd w w.heap.size A1 (cs.map V8))
    (hn2 : n2 = zs.length) (hcap2 : n2 ≤ cap2) (hcm2 : cap2 ≤ maxLen) (hr2 : Rd w w.heap.size A2 (zs.map VI)) (hzs : ∀ z ∈ zs, -9223372036854775808 ≤ z ∧ z ≤ 9223372036854775807) :
    Calls Tryd.prog 4 #[.slice A n cap, .slice A1 n1 cap1, .slice A2 n2 cap2] w fun e w' => e = .returned (.bool true) ∧ Below w.heap.size w w' := by
  have Hn := Lib.hid hn; have Hnil := Lib.hid hnil; have Hr := Lib.hid hr; have Hc := Lib.hid hcm
  have Hn1 := Lib.hid hn1; have Hnil1 := Lib.hid hnil1; have Hr1 := Lib.hid hr1; have Hc1 := Lib.hid hcm1
  have Hn2 := Lib.hid hn2; have Hr2 := Lib.hid hr2; have Hzs := Lib.hid hzs
  unfold maxLen at hcm hcm1 hcm2
  clear hn hnil hr hn1 hnil1 hr1 hn2 hr2 hzs
  go_enter Tryd.func4, Tryd.ntmps4
  go_wp2_with fail
  refine (first_calls w).mono ?_
  rintro en w1 ⟨rfl, hb1⟩
  have hz1 := hb1.size
  have Hb1 := Lib.hid hb1
  clear hb1
  by_cases hbig : 65536 < n
  · have t2 : (65536 : Int) < (n : Int) := by omega
    go_wp2_with fail
    go_ret
    exact ⟨rfl, Hb1.out⟩
  have t2 : ¬ (65536 : Int) < (n : Int) := by omega
  by_cases hbig1 : 65536 < n1
  · have t3 : (65536 : Int) < (n1 : Int) := by omega
    go_wp2_with fail
    go_ret
    exact ⟨rfl, Hb1.out⟩
  have t3 : ¬ (65536 : Int) < (n1 : Int) := by omega
  have Hfr := Lib.hid (fr_new Hb1.out)
  go_wp2_with fail
  refine (NewEdges_calls w1).mono ?_
  rintro en w2 ⟨rfl, rfl⟩
  go_wp2_with fail
  refine (NewEdges_calls _).mono ?_
  rintro en w4 ⟨rfl, rfl⟩
  go_wp2_with fail
  rw [show w1.heap.size + 1 + 1 = w1.heap.size + 2 by omega, show w1.heap.size + 2 + 1 = w1.heap.size + 3 by omega]
  generalize hw5 : (((w1.alloc (.cells #[.slice none 0 0, .int .i64 0, .int .i64 0, .int .i64 0, .bool false, .bool false] 86)).alloc (.cells #[.pointer (some ⟨w1.heap.size, 0, none⟩), .slice none 0 0, .int .i64 0, .bool false] 42)).alloc (.cells #[.slice none 0 0, .int .i64 0, .int .i64 0, .int .i64 0, .bool false, .bool false] 86)).alloc (.cells #[.pointer (some ⟨w1.heap.size + 2, 0, none⟩), .slice none 0 0, .int .i64 0, .bool false] 42) = w5 at *
  clear hw5
  obtain ⟨gx, hgx⟩ : ∃ g, g = w1.heap.size + 1 := ⟨_, rfl⟩
  obtain ⟨gy, hgy⟩ : ∃ g, g = w1.heap.size + 3 := ⟨_, rfl⟩
  obtain ⟨sx, hsx⟩ : ∃ g, g = w1.heap.size := ⟨_, rfl⟩
  obtain ⟨sy, hsy⟩ : ∃ g, g = w1.heap.size + 2 := ⟨_, rfl⟩
  rw [← hgx, ← hgy, ← hsy, ← hsx] at Hfr
  rw [← hgx, ← hgy]
  have Ta := Lib.hid (show TSl w w5 A n cap bs from ⟨Hn.out, by omega, hcap, Hc.out, Hnil.out, Hr.out.below Hfr.out.old (Nat.le_refl _)⟩)
  have Tb := Lib.hid (show TSl w w5 A1 n1 cap1 cs from ⟨Hn1.out, by omega, hcap1, Hc1.out, Hnil1.out, Hr1.out.below Hfr.out.old (Nat.le_refl _)⟩)
  clear hgx hgy hsx hsy Hb1
  go_loopw [0, 1, 10] (fun av bv iv wr => ∃ (i : Nat) (Aa : Option Addr) (na capa : Nat) (xa : List (BitVec 8)) (Ab : Option Addr) (nb capb : Nat) (ab : List (BitVec 8)), av = .slice Aa na capa ∧ bv = .slice Ab nb capb ∧ iv = .int .i64 (i : Int) ∧ i ≤ 200 ∧ TSl w wr Aa na capa xa ∧ TSl w wr Ab nb capb ab ∧ FR w wr gx sx gy sy (65536 - na) (65536 - nb)) (fun _ _ iv _ => 200 - (intOf iv).toNat)
  case atStart => exact ⟨0, _, _, _, _, _, _, _, _, rfl, rfl, rfl, by omega, Ta.out, Tb.out, Hfr.out.mono (by omega) (by omega)⟩
  case round =>
    obtain ⟨i, Aa, na, capa, xa, Ab, nb, capb, ab, rfl, rfl, rfl, hi, hta, htb, hfr⟩ := hrel
    have Tx := Lib.hid hta; have Ty := Lib.hid htb; have Fx := Lib.hid hfr
    have ha1 := hta.2.1; have ha2 := hta.2.2.1; have ha3 := hta.2.2.2.1
    have hb1 := htb.2.1; have hb2 := htb.2.2.1; have hb3 := htb.2.2.2.1
    unfold maxLen at ha3 hb3
    have hzr := hfr.old.size
    clear hta htb hfr
    by_cases hgo : i < n2 ∧ i < 200
    · obtain ⟨h1, h2⟩ := hgo
      have q1 : (i : Int) < (n2 : Int) := by omega
      have q2 : (i : Int) < 200 := by omega
      obtain ⟨z, hz⟩ : ∃ z, zs[i]? = some z := ⟨zs[i]'(by rw [← Hn2.out]; omega), List.getElem?_eq_getElem _⟩
      have hzb := Hzs.out z (List.mem_of_getElem? hz)
      obtain ⟨b, off, hA2, hb, hcell⟩ := (Hr2.out.below Fx.out.old (Nat.le_refl _)) i (VI z) (by rw [List.getElem?_map, hz]; rfl)
      subst hA2
      have Hzb := Lib.hid hzb
      clear hz hb hzb
      by_cases h2 : i % 2 = 0
      · have s1 : Int.tmod (i : Int) 2 = 0 := by rw [Int.tmod_eq_emod_of_nonneg (by omega)]; omega
        clear h2
        go_wp2_with fail
        refine (cut_two Tx.out hzr Hzb.out).mono ?_
        rintro en w6 ⟨T, A3, cap3, rfl, hT, ht1, ht2, hb6⟩
        have Hq := Lib.hid (fr_feed2 (Fx.out.below hb6) (by omega) ht1)
        have Hy6 := Lib.hid (Ty.out.below (hb6.mono hzr)); have Hx6 := Lib.hid ht2
        clear ht1 ht2 hb6 hcell s1
        go_wp2_with fail
        refine (Hq.out).mono ?_
        rintro en w7 ⟨rfl, hf7, hb7⟩
        have Hf7 := Lib.hid hf7; have Hb7 := Lib.hid hb7
        clear hf7 hb7 Hq
        go_wp2_with fail
        go_roundw
        case rel => exact ⟨i + 1, A3, na - T, cap3, xa.drop T, Ab, nb, capb, ab, rfl, rfl, by congr 1, by omega, Hx6.out.below Hb7.out, Hy6.out.below Hb7.out, Hf7.out.mono (by omega) (Nat.le_refl _)⟩
        case measure => simp [intOf]; omega
      · have s1 : Int.tmod (i : Int) 2 = 1 := by rw [Int.tmod_eq_emod_of_nonneg (by omega)]; omega
        clear h2
        go_wp2_with fail
        refine (cut_two Ty.out hzr Hzb.out).mono ?_
        rintro en w6 ⟨T, A3, cap3, rfl, hT, ht1, ht2, hb6⟩
        have Hq := Lib.hid (fr_feed2 (Fx.out.below hb6).symm (by omega) ht1)
        have Hx6 := Lib.hid (Tx.out.below (hb6.mono hzr)); have Hy6 := Lib.hid ht2
        clear ht1 ht2 hb6 hcell s1
        go_wp2_with fail
        refine (Hq.out).mono ?_
        rintro en w7 ⟨rfl, hf7, hb7⟩
        have Hf7 := Lib.hid hf7; have Hb7 := Lib.hid hb7
        clear hf7 hb7 Hq
        go_wp2_with fail
        go_roundw
        case rel => exact ⟨i + 1, Aa, na, capa, xa, A3, nb - T, cap3, ab.drop T, rfl, rfl, by congr 1, by omega, Hx6.out.below Hb7.out, Hy6.out.below Hb7.out, Hf7.out.symm.mono (Nat.le_refl _) (by omega)⟩
        case measure => simp [intOf]; omega
    · have Hq1 := Lib.hid (fr_feed2 Fx.out (by omega) Tx.out)
      have hno : ((i : Int) < (n2 : Int) ∧ ¬ (i : Int) < 200) ∨ ¬ (i : Int) < (n2 : Int) := by omega
      clear hgo
      rcases hno with ⟨hi2, hi3⟩ | hi2
      all_goals
        go_wp2_with fail
        refine (Hq1.out).mono ?_
        rintro en w6 ⟨rfl, hf6, hb6⟩
        have Hq2 := Lib.hid (fr_end hf6 (by omega))
        have Ty6 := Lib.hid (Ty.out.below hb6)
        clear hf6 hb6 Hq1
        go_wp2_with fail
        refine (Hq2.out).mono ?_
        rintro en w7 ⟨rfl, hf7, hb7⟩
        have Hq3 := Lib.hid (fr_feed2 hf7.symm (by omega) (Ty6.out.below hb7))
        clear hf7 hb7 Hq2
        go_wp2_with fail
        refine (Hq3.out).mono ?_
        rintro en w8 ⟨rfl, hf8, hb8⟩
        have Hq4 := Lib.hid (fr_end hf8 (by omega))
        clear hf8 hb8 Hq3
        go_wp2_with fail
        refine (Hq4.out).mono ?_
        rintro en w9 ⟨rfl, hf9, hb9⟩
        have hcv := conv_mark w9 vs4 w9.heap.size 11 11 rfl
        unfold vs4 at hcv
        have hb10 : Below w9.heap.size w9 (w9.alloc (.cells vs4 5 (vs4.size, vs4.size + 1))) := (Below.refl _ _).alloc (Nat.le_refl _) _
        have hz9 := hf9.old.size
        have hr10 := rd_mark w9 (bs4.map V8) vs4 5 (vs4.size, vs4.size + 1) w9.heap.size rfl (by kernel_rfl)
        have hs10 : (w9.alloc (.cells vs4 5 (vs4.size, vs4.size + 1))).heap.size = w9.heap.size + 1 := by simp
        have Hq5 := Lib.hid (fr_feed_new hf9.symm hb10 (by omega) w9.heap.size 11 11 bs4 (Nat.le_refl _) (by omega) rfl (by omega) (by omega) (by unfold maxLen; omega) hr10)
        clear hf9 hb9 hb10 hr10 hs10 Hq4
        go_wp2_with fail
        refine (Hq5.out).mono ?_
        rintro en w11 ⟨rfl, hf11, hb11⟩
        have Hq6 := Lib.hid (fr_end hf11 (by omega))
        clear hf11 hb11 Hq5 hcv
        go_wp2_with fail
        refine (Hq6.out).mono ?_
        rintro en w12 ⟨rfl, hf12, hb12⟩
        have Hf12 := Lib.hid hf12
        clear hf12 hb12 Hq6
        go_wp2_with fail
        go_ret
        exact ⟨rfl, Hf12.out.old⟩
theorem feeds_row (A : Option Addr) (n cap : Nat) (bs : List (BitVec 8)) (A1 : Option Addr) (n1 cap1 : Nat) (cs : List (BitVec 8)) (A2 : Option Addr) (n2 cap2 : Nat) (zs : List Int) (w : World) (h0 : In8 w A n cap bs) (h1 : In8 w A1 n1 cap1 cs) (h2 : InI w A2 n2 cap2 zs) (_ : True) :
    Calls Tryd.prog 4 #[.slice A n cap, .slice A1 n1 cap1, .slice A2 n2 cap2] w fun e w' => e = .returned (.bool true) ∧ Below w.heap.size w w' :=
  law_feeds A n cap bs A1 n1 cap1 cs A2 n2 cap2 zs w h0.1 h0.2.1 h0.2.2.1 h0.2.2.2.1 h0.2.2.2.2 h1.1 h1.2.1 h1.2.2.1 h1.2.2.2.1 h1.2.2.2.2 h2.1 h2.2.1 h2.2.2.1 h2.2.2.2.2.1 h2.2.2.2.2.2
end Go.Proofs.YtgoobadkbndfgaaDoor
