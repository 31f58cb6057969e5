/- from chapter 1: what is wanted here -/
import Derived.Test.YtmeoafodcniliaaGreatDoorInts
import Derived.Test.YtmeoafodcniliaaGreatDoorVarL
import Derived.Laws.CopyOwn
import Derived.WalkKit
import Derived.ProofKit
import Derived.OpenShut
import Derived.LaidMore
import Derived.ShutString
import Derived.ChangeOld
import Derived.Lib.SmallJoins
import Derived.Deep.RegionHeld3
import Derived.Deep.MidRow
import Derived.Test.YtmeoafodcniliaaGreatDoorRows
namespace Go.Proofs.YtmeoafodcniliaaGreatDoor
open Go.RowKit
set_option linter.unusedSimpArgs false
set_option linter.unusedVariables false
set_option maxRecDepth 20000
namespace Vi
theorem len_step (X m : Nat) (h1 : 1 ≤ m) (h : 128 ≤ X / 128 ^ (m - 1)) : m + 1 ≤ len X ∧ X / 128 ^ (m - 1) / 128 = X / 128 ^ (m + 1 - 1) := by
  have p : 0 < 128 ^ (m - 1) := Nat.pow_pos (by decide)
  have e : 128 ^ m = 128 ^ (m - 1) * 128 := by rw [← Nat.pow_succ]; congr 1; omega
  refine ⟨?_, ?_⟩
  · have : 128 ^ m ≤ X := by
      rw [e, Nat.mul_comm]; exact (Nat.le_div_iff_mul_le p).1 h
    exact (len_lt h1).2 this
  · rw [Nat.div_div_eq_div_mul, ← e]; rfl
theorem len_done (X m : Nat) (h1 : 1 ≤ m) (hm : m ≤ len X) (h : ¬ 128 ≤ X / 128 ^ (m - 1)) : m = len X := by
  have p : 0 < 128 ^ (m - 1) := Nat.pow_pos (by decide)
  have e : 128 ^ m = 128 ^ (m - 1) * 128 := by rw [← Nat.pow_succ]; congr 1; omega
  have : X < 128 ^ m := by
    rw [e, Nat.mul_comm]; exact (Nat.div_lt_iff_lt_mul p).1 (by omega)
  have := (len_le h1).2 this
  omega
theorem len_neg {x : Int} (h : x < 0) : len x.toNat = 1 := by
  have : x.toNat = 0 := by omega
  rw [this]; rfl
end Vi
set_option maxHeartbeats 400000 in
theorem len_calls (x : Int) (w : World) (hx : x ≤ 9223372036854775807) :
    Calls Tryz.prog 82 #[.int .i64 x] w fun e w' => e = .returned (.int .i64 (Vi.len x.toNat : Int)) ∧ w = w' := by
  go_enter Tryz.func82, Tryz.ntmps82
  rcases (by omega : x < 0 ∨ 0 ≤ x) with hneg | hpos
  · have he := Vi.len_neg hneg
    have He := Lib.hid he; clear he
    have h128 : ¬ 128 ≤ x := by omega
    go_wp2_with fail
    go_loopw [0, 3] (fun x' n' wr => x' = .int .i64 x ∧ n' = .int .i64 1 ∧ w = wr) (fun _ _ _ => 0)
    case atStart => exact ⟨rfl, rfl, rfl⟩
    case round =>
      obtain ⟨rfl, rfl, rfl⟩ := hrel
      go_wp2_with fail
      go_ret
      exact ⟨by rw [He.out]; rfl, rfl⟩
  · obtain ⟨X, rfl⟩ : ∃ X : Nat, x = (X : Int) := ⟨x.toNat, by omega⟩
    have hX : X < 9223372036854775808 := by omega
    have h9 := Vi.len_nine hX
    go_wp2_with fail
    go_loopw [0, 3] (fun x' n' wr => ∃ m Y : Nat, x' = .int .i64 (Y : Int) ∧ n' = .int .i64 (m : Int) ∧ 1 ≤ m ∧ m ≤ Vi.len X ∧ Y = X / 128 ^ (m - 1) ∧ w = wr) (fun x' _ _ => (intOf x').toNat)
    case atStart => exact ⟨1, X, rfl, rfl, by omega, Vi.len_pos X, by simp, rfl⟩
    case round =>
      obtain ⟨m, Y, rfl, rfl, h1, h2, hY, rfl⟩ := hrel
      by_cases hge : 128 ≤ Y
      · have q1 : (128 : Int) ≤ (Y : Int) := by omega
        obtain ⟨s1, s2⟩ := Vi.len_step X m h1 (by rw [← hY]; exact hge)
        have hYX : Y ≤ X := by rw [hY]; exact Nat.div_le_self _ _
        have hYb : Y ≤ 9223372036854775807 := by omega
        have S1 := Lib.hid s1; have S2 := Lib.hid (show Y / 128 = X / 128 ^ (m + 1 - 1) by rw [hY]; exact s2)
        clear s1 s2 hY hYX
        go_wp2_with fail
        exact ⟨⟨m + 1, Y / 128, by congr 1, by congr 1, by omega, S1.out, S2.out, trivial⟩, by simp [intOf]; omega⟩
      · have q1 : ¬ (128 : Int) ≤ (Y : Int) := by omega
        have hd := Vi.len_done X m h1 h2 (by rw [← hY]; exact hge)
        have Hd := Lib.hid hd
        clear hd hY
        go_wp2_with fail
        go_ret
        exact ⟨by rw [← show m = _ from Hd.out]; rfl, rfl⟩
theorem sizeU8 : (Tryz.prog.info? 5).map (fun x => x.size) = some 1 := by kernel_rfl
theorem rd_src {w : World} {B : Nat} {A : Option Addr} {vs : List Value} (h : Rd w B A vs) {d : Option Addr} :
    0 < vs.length → d = d ∧ ∃ ad, A = some ad ∧ ∀ (j : Nat) (v : Value), vs[j]? = some v → w.cell? (ad.add j) = some v := fun h0 => by
  obtain ⟨b, off, e, _, _⟩ := h.at_ h0
  exact ⟨rfl, _, e, fun j v hv => rd_news h _ e j v hv⟩
theorem nat_min_l (a b c : Nat) (h1 : a = b) (h2 : b ≤ c) : a = Nat.min b c := by
  rw [h1]; exact (Nat.min_eq_left h2).symm
set_option maxHeartbeats 1000000 in
theorem grown_calls (A : Option Addr) (n cap more B : Nat) (bs : List (BitVec 8)) (w : World) (hn : n = bs.length) (hm : n + more ≤ 140737488355328) (hB : B ≤ w.heap.size) (hr : Rd w B A (bs.map V8)) :
    Calls Tryz.prog 85 #[.slice A n cap, .int .i64 (more : Int)] w fun e w' => ∃ A' cap', e = .returned (.slice A' n cap') ∧ w'.ownsRow w.heap.size 5 1 (.slice A' n cap') n (bs.map V8) ∧ Below w.heap.size w w' := by
  obtain ⟨C, hC⟩ : ∃ C, C = n + more := ⟨_, rfl⟩
  have hs : (n : Int) + (more : Int) = (C : Int) := by omega
  have hmk := make_u8 n C (by omega) (by omega)
  have hZ := zeros8_size C
  obtain ⟨Z, hZZ⟩ : ∃ Z, Z = (zeros8 C).toList := ⟨_, rfl⟩
  have hZl : Z.length = C := by rw [hZZ]; simpa using hZ
  have hal : Below w.heap.size w (w.alloc (.cells (zeros8 C) 5)) := (Below.refl _ _).alloc (Nat.le_refl _) _
  have hg : (w.alloc (.cells (zeros8 C) 5)).heap[w.heap.size]? = some (.cells Z.toArray 5 (0, 0)) := by rw [hZZ]; exact heap_alloc_new _ _
  have Hr1 := Lib.hid (hr.below hal hB)
  have Hn := Lib.hid hn; have Hal := Lib.hid hal; have Hg := Lib.hid hg; have HZ := Lib.hid hZl; have HC := Lib.hid hC
  have hnC : n ≤ C := by omega
  clear hn hr hal hg hZl hZ hZZ hC
  go_enter Tryz.func85, Tryz.ntmps85
  go_wp2_with (with_reducible (refine wpList_copy_splice (o := ⟨some 15, _, _, _, _, _⟩) rfl (.tmp 13) (.tmp 14) 22 22 rfl 5 descU8s sizeU8 (some ⟨w.heap.size, 0, none⟩) A n C n cap (by simp [Act.eval, Act.put]) (by simp [Act.eval, Act.put]) w.heap.size 0 Z 5 Hg.out (bs.map V8) (nat_min_l _ _ _ (by rw [List.length_map]; exact Hn.out.symm) (Nat.le_refl _)) (rd_src Hr1.out) (by rw [List.length_map, HZ.out, ← Hn.out]; omega) (v8_one _) w.heap.size w Hal.out (Nat.le_refl _) ?_); intro w2 hg2 hb2)
  have Hb2 := Lib.hid hb2
  clear hb2
  go_wp2_with fail
  go_ret
  have hl : (bs.map V8).length = n := by rw [List.length_map]; exact Hn.out.symm
  refine ⟨_, _, rfl, ⟨by omega, Or.inr ⟨w.heap.size, C, _, rfl, Nat.le_refl _, hg2.out, hnC, by unfold maxLen; have := HC.out; omega, ?_, ?_⟩⟩, Hb2.out⟩
  · have := length_splice Z 0 (bs.map V8) (by rw [hl, HZ.out]; omega)
    rw [HZ.out] at this
    simp [this]
  · simp only [splice, List.take_zero, List.nil_append, Nat.zero_add, Nat.mul_one]
    exact List.take_left' hl
theorem and127 (m : Nat) (h : m < 256) : bits .and .u8 (m : Int) 127 = ((m % 128 : Nat) : Int) := by
  have : ∀ m : Fin 256, bits .and .u8 (m.val : Int) 127 = ((m.val % 128 : Nat) : Int) := by decide +kernel
  exact this ⟨m, h⟩
theorem or128 (m : Nat) (h : m < 128) : bits .or .u8 (m : Int) 128 = ((m + 128 : Nat) : Int) := by
  have : ∀ m : Fin 128, bits .or .u8 (m.val : Int) 128 = ((m.val + 128 : Nat) : Int) := by decide +kernel
  exact this ⟨m, h⟩
theorem byte_of (X j : Nat) : (X : Int) / 2 ^ (7 * j) % 256 = ((X / 128 ^ j % 256 : Nat) : Int) := by
  rw [Vi.pow7]; simp
theorem and_grp (X j : Nat) : bits .and .u8 ((X : Int) / 2 ^ (7 * j) % 256) 127 = ((X / 128 ^ j % 128 : Nat) : Int) := by
  rw [byte_of, and127 _ (Nat.mod_lt _ (by decide))]; congr 1; omega
theorem grp_top (X j : Nat) : bits .or .u8 (bits .and .u8 ((X : Int) / 2 ^ (7 * (j + 1)) % 256) 127) 128 = (n8 (Vi.grp X (j + 1)) : Int) := by
  rw [and_grp, or128 _ (Nat.mod_lt _ (by decide))]
  unfold n8; rw [Vi.grp_pos _ _ (by omega)]
theorem grp_low (X : Nat) : bits .and .u8 ((X : Int) % 256) 127 = (n8 (Vi.grp X 0) : Int) := by
  have := and_grp X 0
  simp at this
  rw [this]; unfold n8; rw [Vi.grp_zero]; simp
set_option maxHeartbeats 1000000 in
theorem put_calls (A : Option Addr) (n cap base : Nat) (bs : List (BitVec 8)) (x : Int) (w : World) (hx : x ≤ 9223372036854775807) (hn : n = bs.length) (hm : n ≤ 140737488351232) (hB : base ≤ w.heap.size) (hown : w.ownsRow base 5 1 (.slice A n cap) n (bs.map V8)) :
    Calls Tryz.prog 84 #[.slice A n cap, .int .i64 x] w fun e w' => ∃ A' n' cap', e = .returned (.slice A' n' cap') ∧ n' = (bs ++ Vi.form x.toNat).length ∧ w'.ownsRow base 5 1 (.slice A' n' cap') n' ((bs ++ Vi.form x.toNat).map V8) ∧ Below base w w' := by
  obtain ⟨i0, hi, hz0, hz1, hz2⟩ := info_parts infoU8
  have Hi := Lib.hid hi; have Hn := Lib.hid hn; have Hown := Lib.hid hown
  clear hi hn hown
  obtain ⟨X, hX⟩ : ∃ X, X = x.toNat := ⟨_, rfl⟩
  have hX63 : X < 9223372036854775808 := by omega
  have h9 := Vi.len_nine hX63
  have h1 := Vi.len_pos X
  have hxx : (if x < 0 then 0 else x) = (X : Int) := by split <;> omega
  have hmx : max x 0 = (X : Int) := by omega
  rw [← hX]
  clear hX
  go_enter Tryz.func84, Tryz.ntmps84
  go_wp2_with fail
  refine (len_calls (X : Int) w (by omega)).mono ?_
  rintro e w' ⟨rfl, rfl⟩
  rw [Int.toNat_natCast]
  clear hxx hmx
  go_wp2_with fail
  go_loopw [0, 5] (fun b' i' wr => ∃ (r : Nat) (z : Int) (L : List (BitVec 8)), i' = .int .i64 z ∧ z = (r : Int) - 1 ∧ r ≤ Vi.len X ∧ L ++ Vi.down X r = bs ++ Vi.form X ∧ wr.ownsRow base 5 1 b' L.length (L.map V8) ∧ Below base w wr) (fun _ i _ => (intOf i + 1).toNat)
  case atStart => exact ⟨Vi.len X, _, bs, rfl, by omega, Nat.le_refl _, rfl, by rw [← Hn.out]; exact Hown.out, Below.refl _ _⟩
  case round =>
    obtain ⟨r, z, L, rfl, hz, hr, hL, hown, hbl⟩ := hrel
    have hLl : L.length + r = n + Vi.len X := by
      have := congrArg List.length hL
      rw [List.length_append, List.length_append, Vi.down_length, Vi.form_length] at this
      rw [Hn.out]; exact this
    obtain ⟨A1, cap1, rfl, hc1, hm1, _⟩ := own_form hown
    have HL := Lib.hid hL; have Hown1 := Lib.hid hown; have Hbl := Lib.hid hbl
    have hsz := hbl.size
    clear hL hown hbl
    cases r with
    | zero =>
      obtain rfl : z = -1 := by omega
      clear hz hLl
      go_wp2_with fail
      go_ret
      have hl : L = bs ++ Vi.form X := by have := HL.out; rwa [Vi.down, List.append_nil] at this
      rw [hl] at Hown1
      exact ⟨_, _, _, rfl, by rw [hl], by rw [hl]; exact Hown1.out, Hbl.out⟩
    | succ j =>
      obtain rfl : z = (j : Int) := by omega
      have hj8 : j ≤ 8 := by omega
      have hLb : L.length ≤ n + 8 := by omega
      clear hz hLl
      cases j with
      | zero =>
        have hlow := grp_low X
        have Hown2 := Lib.hid (own_below Hown1.out ((Below.refl wr.heap.size wr).alloc (Nat.le_refl _) (.cells #[.int .u8 (n8 (Vi.grp X 0) : Int)] 5)) (Nat.le_refl _))
        go_wp2_with (at_builtin; refine wpList_append_rd rfl _ _ 22 rfl base 5 i0 _ 1 descU8s Hi.out hz0 hz1 hz2 rfl _ L.length (L.map V8) rfl Hown2.out _ (some ⟨wr.heap.size, 0, none⟩) 1 1 [V8 (Vi.grp X 0)] rfl rfl (by intro h; cases h) (rd_fresh _ _ _ _ _ _ rfl rfl) (by intro u hu; simp at hu; subst hu; rfl) (by unfold maxLen; omega) (by omega) (by simp; omega) ?_)
        intro v4 w4 hown4 hg4
        have e4 : L.map V8 ++ [V8 (Vi.grp X 0)] = (L ++ [Vi.grp X 0]).map V8 := by simp
        rw [e4, show L.length + 1 = (L ++ [Vi.grp X 0]).length by simp] at hown4
        obtain ⟨A4, cap4, rfl, hc4, hm4, _⟩ := own_form hown4
        have Hown4 := Lib.hid hown4
        have HL2 := Lib.hid (show (L ++ [Vi.grp X 0]) ++ Vi.down X 0 = bs ++ Vi.form X by rw [← HL.out]; simp [Vi.down])
        have hb4 : Below base w w4 := (Hbl.out.alloc (Nat.le_trans hB hsz) _).grown hg4 (by simp; omega) fun k hk => (Hown2.out.lt k hk).1
        have Hb4 := Lib.hid hb4
        clear hown4 hg4 hb4 e4 Hown2 Hown1 HL
        go_wp2_with fail
        exact ⟨⟨0, _, _, rfl, by omega, by omega, HL2.out, Hown4.out, Hb4.out⟩, by simp [intOf]⟩
      | succ j =>
        have htop := grp_top X j
        have Hown2 := Lib.hid (own_below Hown1.out ((Below.refl wr.heap.size wr).alloc (Nat.le_refl _) (.cells #[.int .u8 (n8 (Vi.grp X (j + 1)) : Int)] 5)) (Nat.le_refl _))
        go_wp2_with (at_builtin; refine wpList_append_rd rfl _ _ 22 rfl base 5 i0 _ 1 descU8s Hi.out hz0 hz1 hz2 rfl _ L.length (L.map V8) rfl Hown2.out _ (some ⟨wr.heap.size, 0, none⟩) 1 1 [V8 (Vi.grp X (j + 1))] rfl rfl (by intro h; cases h) (rd_fresh _ _ _ _ _ _ rfl rfl) (by intro u hu; simp at hu; subst hu; rfl) (by unfold maxLen; omega) (by omega) (by simp; omega) ?_)
        intro v4 w4 hown4 hg4
        have e4 : L.map V8 ++ [V8 (Vi.grp X (j + 1))] = (L ++ [Vi.grp X (j + 1)]).map V8 := by simp
        rw [e4, show L.length + 1 = (L ++ [Vi.grp X (j + 1)]).length by simp] at hown4
        obtain ⟨A4, cap4, rfl, hc4, hm4, _⟩ := own_form hown4
        have Hown4 := Lib.hid hown4
        have HL2 := Lib.hid (show (L ++ [Vi.grp X (j + 1)]) ++ Vi.down X (j + 1) = bs ++ Vi.form X by rw [← HL.out]; simp [Vi.down])
        have hb4 : Below base w w4 := (Hbl.out.alloc (Nat.le_trans hB hsz) _).grown hg4 (by simp; omega) fun k hk => (Hown2.out.lt k hk).1
        have Hb4 := Lib.hid hb4
        clear hown4 hg4 hb4 e4 Hown2 Hown1 HL
        go_wp2_with fail
        exact ⟨⟨j + 1, _, _, rfl, by omega, by omega, HL2.out, Hown4.out, Hb4.out⟩, by simp [intOf]; omega⟩
set_option maxHeartbeats 1000000 in
theorem Put_calls (A : Option Addr) (n cap B : Nat) (bs : List (BitVec 8)) (x : Int) (w : World) (hx : x ≤ 9223372036854775807) (hn : n = bs.length) (hm : n ≤ 70368744177664) (hB : B ≤ w.heap.size) (hr : Rd w B A (bs.map V8)) :
    Calls Tryz.prog 37 #[.slice A n cap, .int .i64 x] w fun e w' => ∃ A' n' cap', e = .returned (.slice A' n' cap') ∧ n' = (bs ++ Vi.form x.toNat).length ∧ w'.ownsRow w.heap.size 5 1 (.slice A' n' cap') n' ((bs ++ Vi.form x.toNat).map V8) ∧ Below w.heap.size w w' := by
  have Hn := Lib.hid hn; have Hr := Lib.hid hr
  clear hn hr
  go_enter Tryz.func37, Tryz.ntmps37
  go_wp2_with fail
  refine (grown_calls A n cap 9 B bs w Hn.out (by omega) hB Hr.out).mono ?_
  rintro e w1 ⟨A1, cap1, rfl, hown1, hb1⟩
  have Hown1 := Lib.hid hown1; have Hb1 := Lib.hid hb1
  have hs1 := hb1.size
  clear hown1 hb1
  go_wp2_with fail
  refine (put_calls A1 n cap1 w.heap.size bs x w1 hx Hn.out (by omega) hs1 Hown1.out).mono ?_
  rintro e w2 ⟨A2, n2, cap2, rfl, hn2, hown2, hb2⟩
  have Hown2 := Lib.hid hown2; have Hb2 := Lib.hid (Hb1.out.trans hb2); have Hn2 := Lib.hid hn2
  clear hown2 hb2 hn2
  go_wp2_with fail
  go_ret
  exact ⟨_, _, _, rfl, Hn2.out, Hown2.out, Hb2.out⟩
namespace Vi
/-- What PutList lays behind bytes. -/
def putB (bs : List (BitVec 8)) (f : Int) (zs : List Int) : List (BitVec 8) := if putOk f zs = true then bs ++ (form zs.length ++ gapsL f zs) else []
theorem gapsL_len : ∀ (l : List Int) (f : Int), (∀ x ∈ l, x - f < 9223372036854775808) → rise f l = true → (gapsL f l).length ≤ 9 * l.length
  | [], f, _, _ => by simp [gapsL]
  | x :: t, f, hb, hr => by
    simp only [rise, Bool.and_eq_true, decide_eq_true_eq] at hr
    have hx := hb x (by simp)
    have h9 := len_nine (x := (x - f).toNat) (by omega)
    have := gapsL_len t (x + 1) (fun y hy => by have := hb y (by simp [hy]); omega) hr.2
    rw [gapsL, List.length_append, form_length, List.length_cons]; omega
end Vi
theorem i64s_max {zs : List Int} (h : ∀ z ∈ zs, -9223372036854775808 ≤ z ∧ z ≤ 9223372036854775807) {a : Nat} {z : Int} (hz : zs[a]? = some z) : -9223372036854775808 ≤ z ∧ z ≤ 9223372036854775807 := h z (List.mem_of_getElem? hz)
set_option maxHeartbeats 4000000 in
set_option maxRecDepth 20000 in
theorem putList_calls (A : Option Addr) (n cap B : Nat) (bs : List (BitVec 8)) (f : Int) (A' : Option Addr) (k cap' B' : Nat) (zs : List Int) (w : World) (hn : n = bs.length) (hm : n ≤ 1099511627776) (hk : k = zs.length) (hkm : k ≤ 1099511627776) (hkc : k ≤ cap') (hcm : cap' ≤ maxLen)
    (hB : B ≤ w.heap.size) (hB' : B' ≤ w.heap.size) (hr : Rd w B A (bs.map V8)) (hr' : Rd w B' A' (zs.map VI)) (hz : ∀ z ∈ zs, -9223372036854775808 ≤ z ∧ z ≤ 9223372036854775807) (hf : f ≤ 9223372036854775807) :
    Calls Tryz.prog 38 #[.slice A n cap, .int .i64 f, .slice A' k cap'] w fun e w' => ∃ A2 m cap2, e = .returned (.tuple #[.slice A2 m cap2, .int .i64 (Vi.putE f zs)]) ∧ m = (Vi.putB bs f zs).length ∧
      w'.ownsRow w.heap.size 5 1 (.slice A2 m cap2) m ((Vi.putB bs f zs).map V8) ∧ Below w.heap.size w w' := by
  have Hn := Lib.hid hn; have Hk := Lib.hid hk; have Hr := Lib.hid hr; have Hr' := Lib.hid hr'; have Hz := Lib.hid hz
  unfold maxLen at hcm
  clear hn hk hr hr' hz
  go_enter Tryz.func38, Tryz.ntmps38
  rcases (by omega : f < 0 ∨ 0 ≤ f) with hf0 | hf0
  · have hE : Vi.putOk f zs = false := by unfold Vi.putOk; rw [decide_eq_false (by omega)]; rfl
    have HE := Lib.hid hE; clear hE
    go_wp2_with fail
    go_ret2
    refine ⟨none, 0, 0, ?_, ?_, ?_, Below.refl _ _⟩
    · unfold Vi.putE; rw [if_neg (by rw [HE.out]; simp)]; rfl
    · unfold Vi.putB; rw [if_neg (by rw [HE.out]; simp)]; rfl
    · unfold Vi.putB; rw [if_neg (by rw [HE.out]; simp)]; exact ⟨rfl, Or.inl ⟨rfl, rfl⟩⟩
  · have hOk : Vi.putOk f zs = Vi.rise f zs := by unfold Vi.putOk; rw [decide_eq_true hf0]; rfl
    have HOk := Lib.hid hOk; clear hOk
    obtain ⟨C, hC⟩ : ∃ C, C = 9 + k := ⟨_, rfl⟩
    have hk9 : (9 : Int) + (k : Int) = (C : Int) := by omega
    have hCb : C ≤ 1099511627785 := by omega
    clear hC
    have hf1 : ¬ f < 0 := by omega
    go_wp2_with fail
    refine (grown_calls A n cap C B bs w Hn.out (by omega) hB Hr.out).mono ?_
    rintro e w1 ⟨A1, cap1, rfl, hown1, hb1⟩
    have Hown1 := Lib.hid hown1; have Hb1 := Lib.hid hb1
    have hs1 := hb1.size
    clear hown1 hb1 hk9
    go_wp2_with fail
    refine (put_calls A1 n cap1 w.heap.size bs (k : Int) w1 (by omega) Hn.out (by omega) hs1 Hown1.out).mono ?_
    rintro e w2 ⟨A2, n2, cap2, rfl, hn2, hown2, hb2⟩
    rw [Int.toNat_natCast] at hn2 hown2
    have h9 := Vi.len_nine (x := k) (by omega)
    have hn2b : n2 ≤ n + 9 := by rw [hn2, List.length_append, Vi.form_length, ← Hn.out]; omega
    have Hown2 := Lib.hid hown2; have Hb2 := Lib.hid (Hb1.out.trans hb2); have Hn2 := Lib.hid hn2
    clear hown2 hb2 hn2 Hown1 Hb1 h9
    go_wp2_with fail
    go_loopw [8, 23] (fun o i wr => ∃ (a : Nat) (O : List (BitVec 8)) (g : Int), i = .int .i64 (a : Int) ∧ a ≤ k ∧ O.length ≤ n + 9 + 9 * a ∧ O ++ Vi.gapsL g (zs.drop a) = bs ++ (Vi.form zs.length ++ Vi.gapsL f zs) ∧ Vi.rise f zs = Vi.rise g (zs.drop a) ∧
      ((a = 0 ∧ g = f) ∨ ∃ (j : Nat) (y : Int), a = j + 1 ∧ zs[j]? = some y ∧ 0 ≤ y ∧ g = y + 1) ∧ wr.ownsRow w.heap.size 5 1 o O.length (O.map V8) ∧ Below w.heap.size w wr) (fun _ i _ => k - (intOf i).toNat)
    case atStart =>
      refine ⟨0, bs ++ Vi.form k, f, rfl, by omega, by rw [← Hn2.out]; omega, ?_, rfl, Or.inl ⟨rfl, rfl⟩, by rw [← Hn2.out]; exact Hown2.out, Hb2.out⟩
      rw [Hk.out]; simp
    case round =>
      obtain ⟨a, O, g, rfl, ha, hOl, hO, hR, hg, hown, hbl⟩ := hrel
      obtain ⟨A3, cap3, rfl, hc3, hm3, _⟩ := own_form hown
      have HO := Lib.hid hO; have HR := Lib.hid hR; have Hown := Lib.hid hown; have Hbl := Lib.hid hbl
      have hsz := hbl.size
      clear hO hR hown hbl
      by_cases hlt : a < k
      · have q1 : (a : Int) < (k : Int) := by omega
        obtain ⟨x, hx⟩ : ∃ x, zs[a]? = some x := ⟨zs[a]'(by rw [← Hk.out]; omega), List.getElem?_eq_getElem _⟩
        obtain ⟨b, off, rfl, hb, hc⟩ := rd_get (Hr'.out.below Hbl.out hB') hx
        obtain ⟨hx1, hx2⟩ := i64s_max Hz.out hx
        have hd : zs.drop a = x :: zs.drop (a + 1) := by
          rw [List.drop_eq_getElem_cons (List.getElem?_eq_some_iff.1 hx).1, (List.getElem?_eq_some_iff.1 hx).2]
        have Hd := Lib.hid hd; have Hx := Lib.hid hx
        clear hd hx
        rcases hg with ⟨rfl, rfl⟩ | ⟨j, y, rfl, hy, hy0, rfl⟩
        · have hc0 : wr.cell? ⟨b, off, none⟩ = some (.int .i64 x) := by rw [Nat.add_zero] at hc; exact hc
          clear hc
          by_cases hle : g ≤ x
          · go_wp2_with fail
            refine (put_calls A3 O.length cap3 w.heap.size O (x - g) wr (by omega) rfl (by omega) hsz Hown.out).mono ?_
            rintro e w4 ⟨A4, n4, cap4, rfl, hn4, hown4, hb4⟩
            have h9 := Vi.len_nine (x := (x - g).toNat) (by omega)
            have hl4 : (O ++ Vi.form (x - g).toNat).length ≤ n + 9 + 9 * 1 := by rw [List.length_append, Vi.form_length]; omega
            have Hl4 := Lib.hid hl4
            have Hown4 := Lib.hid hown4; have Hb4 := Lib.hid (Hbl.out.trans hb4); have Hn4 := Lib.hid hn4
            have HO4 := Lib.hid (show (O ++ Vi.form (x - g).toNat) ++ Vi.gapsL (x + 1) (zs.drop (0 + 1)) = bs ++ (Vi.form zs.length ++ Vi.gapsL g zs) by rw [← HO.out, Hd.out, Vi.gapsL, List.append_assoc])
            have HR4 := Lib.hid (show Vi.rise g zs = Vi.rise (x + 1) (zs.drop (0 + 1)) by rw [HR.out, Hd.out, Vi.rise, decide_eq_true hle, Bool.true_and])
            clear hown4 hb4 hn4 hl4 h9 Hown
            go_wp2_with fail
            exact ⟨⟨0 + 1, O ++ Vi.form (x - g).toNat, x + 1, rfl, by omega, Hl4.out, HO4.out, HR4.out, Or.inr ⟨0, x, rfl, Hx.out, by omega, rfl⟩, by rw [← Hn4.out]; exact Hown4.out, Hb4.out⟩, by simp [intOf]; omega⟩
          · have hE : Vi.putOk g zs = false := by rw [HOk.out, HR.out, Hd.out, Vi.rise, decide_eq_false hle]; rfl
            have HE := Lib.hid hE; clear hE
            go_wp2_with fail
            go_ret2
            refine ⟨none, 0, 0, ?_, ?_, ?_, Hbl.out⟩
            · unfold Vi.putE; rw [if_neg (by rw [HE.out]; simp)]; rfl
            · unfold Vi.putB; rw [if_neg (by rw [HE.out]; simp)]; rfl
            · unfold Vi.putB; rw [if_neg (by rw [HE.out]; simp)]; exact ⟨rfl, Or.inl ⟨rfl, rfl⟩⟩
        · obtain ⟨b', off', e', _, hcy⟩ := rd_get (Hr'.out.below Hbl.out hB') hy
          injection e' with e'; injection e' with e1 e2; subst e1; subst e2
          obtain ⟨hy1, hy2⟩ := i64s_max Hz.out hy
          have hj1 : ((j : Int) + 1) - 1 = (j : Int) := by omega
          have hjk : (j : Int) < (k : Int) := by omega
          clear hy
          by_cases hle : y < x
          · go_wp2_with fail
            refine (put_calls A3 O.length cap3 w.heap.size O (x - y - 1) wr (by omega) rfl (by omega) hsz Hown.out).mono ?_
            rintro e w4 ⟨A4, n4, cap4, rfl, hn4, hown4, hb4⟩
            have exy : x - y - 1 = x - (y + 1) := by omega
            rw [exy] at hn4 hown4
            have h9 := Vi.len_nine (x := (x - (y + 1)).toNat) (by omega)
            have hl4 : (O ++ Vi.form (x - (y + 1)).toNat).length ≤ n + 9 + 9 * (j + 1 + 1) := by rw [List.length_append, Vi.form_length]; omega
            have Hl4 := Lib.hid hl4
            have Hown4 := Lib.hid hown4; have Hb4 := Lib.hid (Hbl.out.trans hb4); have Hn4 := Lib.hid hn4
            have HO4 := Lib.hid (show (O ++ Vi.form (x - (y + 1)).toNat) ++ Vi.gapsL (x + 1) (zs.drop (j + 1 + 1)) = bs ++ (Vi.form zs.length ++ Vi.gapsL f zs) by rw [← HO.out, Hd.out, Vi.gapsL, List.append_assoc])
            have HR4 := Lib.hid (show Vi.rise f zs = Vi.rise (x + 1) (zs.drop (j + 1 + 1)) by rw [HR.out, Hd.out, Vi.rise, decide_eq_true (show y + 1 ≤ x by omega), Bool.true_and])
            clear hown4 hb4 hn4 hl4 h9 Hown exy hj1
            go_wp2_with fail
            exact ⟨⟨j + 1 + 1, O ++ Vi.form (x - (y + 1)).toNat, x + 1, by congr 1, by omega, Hl4.out, HO4.out, HR4.out, Or.inr ⟨j + 1, x, rfl, Hx.out, by omega, rfl⟩, by rw [← Hn4.out]; exact Hown4.out, Hb4.out⟩, by simp [intOf]; omega⟩
          · have hE : Vi.putOk f zs = false := by rw [HOk.out, HR.out, Hd.out, Vi.rise, decide_eq_false (by omega)]; rfl
            have HE := Lib.hid hE; clear hE
            go_wp2_with fail
            go_ret2
            refine ⟨none, 0, 0, ?_, ?_, ?_, Hbl.out⟩
            · unfold Vi.putE; rw [if_neg (by rw [HE.out]; simp)]; rfl
            · unfold Vi.putB; rw [if_neg (by rw [HE.out]; simp)]; rfl
            · unfold Vi.putB; rw [if_neg (by rw [HE.out]; simp)]; exact ⟨rfl, Or.inl ⟨rfl, rfl⟩⟩
      · obtain rfl : a = k := by omega
        have hd : zs.drop a = [] := List.drop_eq_nil_of_le (by rw [Hk.out]; exact Nat.le_refl _)
        have hO2 := HO.out; have hR2 := HR.out
        rw [hd, Vi.gapsL, List.append_nil] at hO2
        rw [hd, Vi.rise] at hR2
        have hE : Vi.putOk f zs = true := by rw [HOk.out, hR2]
        have HE := Lib.hid hE; have HO2 := Lib.hid hO2
        clear hE hO2 hR2 hd hg
        go_wp2_with fail
        go_ret2
        have e : Vi.putB bs f zs = O := by unfold Vi.putB; rw [if_pos HE.out]; exact HO2.out.symm
        refine ⟨A3, O.length, cap3, ?_, ?_, ?_, Hbl.out⟩
        · unfold Vi.putE; rw [if_pos HE.out]; rfl
        · rw [e]
        · rw [e]; exact Hown.out
namespace Vi
theorem val_take_succ (bs : List (BitVec 8)) (i : Nat) (c : BitVec 8) (h : bs[i]? = some c) : val (bs.take (i + 1)) = val (bs.take i) * 128 + c.toNat % 128 := by
  rw [List.take_add_one, h]; exact val_snoc _ _
theorem val_take_lt (bs : List (BitVec 8)) (i : Nat) (hi : i ≤ 8) : val (bs.take i) < 72057594037927936 := by
  have := val_lt (bs.take i)
  rw [List.length_take] at this
  have h3 : 128 ^ (min i bs.length) ≤ 128 ^ 8 := Nat.pow_le_pow_right (by decide) (by omega)
  omega
/-- All of the first i are great: where the first nine (or all) are, it is an error. -/
def Lead (bs : List (BitVec 8)) (i : Nat) : Prop := ∀ j, j < i → ∃ c, bs[j]? = some c ∧ 128 ≤ c.toNat
theorem Lead.zero (bs : List (BitVec 8)) : Lead bs 0 := fun j h => absurd h (by omega)
theorem Lead.step {bs : List (BitVec 8)} {i : Nat} {c : BitVec 8} (h : Lead bs i) (hc : bs[i]? = some c) (hb : 128 ≤ c.toNat) : Lead bs (i + 1) := fun j hj => by
  rcases Nat.lt_or_ge j i with h1 | h1
  · exact h j h1
  · obtain rfl : j = i := by omega
    exact ⟨c, hc, hb⟩
theorem Lead.end_ {bs : List (BitVec 8)} {i : Nat} {c : BitVec 8} (h : Lead bs i) (hi : i ≤ 8) (h0 : bs.head? ≠ some 128#8) (hc : bs[i]? = some c) (hb : c.toNat < 128) : numE bs = 0 ∧ numX bs = val (bs.take (i + 1)) ∧ numN bs = i + 1 := by
  have hl := lead_at bs i c hc (lead_all bs i h) hb
  have hlt := (List.getElem?_eq_some_iff.1 hc).1
  have e : numE bs = 0 := by unfold numE; rw [if_neg h0, if_neg (by omega), if_neg (by omega)]
  refine ⟨e, ?_, ?_⟩
  · unfold numX; rw [if_pos e, hl]
  · unfold numN; rw [if_pos e, hl]
theorem Lead.wide {bs : List (BitVec 8)} (h : Lead bs 9) (h0 : bs.head? ≠ some 128#8) : numE bs = 12 ∧ numX bs = 0 ∧ numN bs = 0 := by
  have hl := lead_all bs 9 h
  have e : numE bs = 12 := by unfold numE; rw [if_neg h0, if_pos hl]
  have hz := num_err (b := bs) (by rw [e]; decide)
  exact ⟨e, hz.1, hz.2⟩
theorem Lead.short {bs : List (BitVec 8)} (h : Lead bs bs.length) (hn : bs.length < 9) (h0 : bs.head? ≠ some 128#8) : numE bs = 10 ∧ numX bs = 0 ∧ numN bs = 0 := by
  have hl := lead_all bs _ h
  have hl2 := lead_le bs
  have e : numE bs = 10 := by unfold numE; rw [if_neg h0, if_neg (by omega), if_pos (by omega)]
  have hz := num_err (b := bs) (by rw [e]; decide)
  exact ⟨e, hz.1, hz.2⟩
theorem num_min {bs : List (BitVec 8)} (h0 : bs.head? = some 128#8) : numE bs = 11 ∧ numX bs = 0 ∧ numN bs = 0 := by
  have e : numE bs = 11 := by unfold numE; rw [if_pos h0]
  have hz := num_err (b := bs) (by rw [e]; decide)
  exact ⟨e, hz.1, hz.2⟩
end Vi
theorem and8_127 (c : BitVec 8) : bits .and .u8 (n8 c : Int) 127 = ((c.toNat % 128 : Nat) : Int) := and127 c.toNat c.isLt
theorem or64 (x d : Nat) (hx : x < 72057594037927936) (hd : d < 128) : bits .or .i64 ((x : Int) * 128) (d : Int) = ((x * 128 + d : Nat) : Int) := by
  have e : bits .or .i64 ((x : Int) * 128) (d : Int) = IntKind.i64.wrap ((BitVec.ofInt 64 ((x : Int) * 128) ||| BitVec.ofInt 64 (d : Int)).toNat : Int) := rfl
  have e1 : (BitVec.ofInt 64 ((x : Int) * 128)).toNat = x * 2 ^ 7 := by
    rw [show (x : Int) * 128 = ((x * 2 ^ 7 : Nat) : Int) by simp, BitVec.ofInt_natCast, BitVec.toNat_ofNat, Nat.mod_eq_of_lt (by omega)]
  have e2 : (BitVec.ofInt 64 (d : Int)).toNat = d := by rw [BitVec.ofInt_natCast, BitVec.toNat_ofNat, Nat.mod_eq_of_lt (by omega)]
  have e3 : (BitVec.ofInt 64 ((x : Int) * 128) ||| BitVec.ofInt 64 (d : Int)).toNat = x * 128 + d := by
    rw [BitVec.toNat_or, e1, e2, Nat.mul_comm x, ← Nat.two_pow_add_eq_or_of_lt (by omega : d < 2 ^ 7)]
  rw [e, e3]
  exact IntWalk.i64_in _ (by omega)
set_option maxHeartbeats 4000000 in
theorem form_calls (A : Option Addr) (n cap B : Nat) (bs : List (BitVec 8)) (w : World) (hn : n = bs.length) (hc : n ≤ cap) (hcm : cap ≤ maxLen) (hnil : A = none → n = 0 ∧ cap = 0) (hr : Rd w B A (bs.map V8)) :
    Calls Tryz.prog 177 #[.slice A n cap] w fun e w' => e = .returned (.tuple #[.int .i64 (Vi.numX bs : Int), .int .i64 (Vi.numN bs : Int), .int .i64 (Vi.numE bs)]) ∧ w = w' := by
  have Hn := Lib.hid hn; have Hr := Lib.hid hr
  unfold maxLen at hcm
  clear hn hr
  go_enter Tryz.func177, Tryz.ntmps177
  rcases Nat.eq_zero_or_pos n with h0 | h0
  · have hb : bs = [] := List.eq_nil_of_length_eq_zero (by rw [← Hn.out]; exact h0)
    obtain ⟨e1, e2, e3⟩ := Vi.Lead.short (bs := bs) (by rw [hb]; exact Vi.Lead.zero _) (by rw [hb]; simp) (by rw [hb]; simp)
    have E1 := Lib.hid e1; have E2 := Lib.hid e2; have E3 := Lib.hid e3
    subst h0
    clear e1 e2 e3 hb
    rcases A with _ | ad
    · obtain rfl := (hnil rfl).2
      go_wp2_with fail
      go_loopw [5, 26] (fun x i wr => x = .int .i64 0 ∧ i = .int .i64 0 ∧ w = wr) (fun _ _ _ => 0)
      case atStart => exact ⟨rfl, rfl, rfl⟩
      case round =>
        obtain ⟨rfl, rfl, rfl⟩ := hrel
        go_wp2_with fail
        go_ret3
        exact ⟨by rw [E1.out, E2.out, E3.out]; rfl, rfl⟩
    · clear hnil
      go_wp2_with fail
      go_loopw [5, 26] (fun x i wr => x = .int .i64 0 ∧ i = .int .i64 0 ∧ w = wr) (fun _ _ _ => 0)
      case atStart => exact ⟨rfl, rfl, rfl⟩
      case round =>
        obtain ⟨rfl, rfl, rfl⟩ := hrel
        go_wp2_with fail
        go_ret3
        exact ⟨by rw [E1.out, E2.out, E3.out]; rfl, rfl⟩
  · clear hnil
    obtain ⟨c0, hc0⟩ : ∃ c, bs[0]? = some c := ⟨bs[0]'(by rw [← Hn.out]; omega), List.getElem?_eq_getElem _⟩
    obtain ⟨blk, off, rfl, hblk, hcell⟩ := Hr.out 0 (V8 c0) (by rw [List.getElem?_map, hc0]; rfl)
    have hcell0 : w.cell? ⟨blk, off, none⟩ = some (V8 c0) := by rw [Nat.add_zero] at hcell; exact hcell
    have hhead : bs.head? = some c0 := by rw [List.head?_eq_getElem?]; exact hc0
    have hpos : (0 : Int) < (n : Int) := by omega
    by_cases hc8 : c0 = 128#8
    · obtain ⟨e1, e2, e3⟩ := Vi.num_min (bs := bs) (by rw [hhead, hc8])
      have E1 := Lib.hid e1; have E2 := Lib.hid e2; have E3 := Lib.hid e3
      have hb : ((n8 c0 : Int) == 128) = true := by rw [hc8]; rfl
      clear e1 e2 e3 hc0 hcell hhead hc8
      go_wp2_with fail
      go_ret3
      exact ⟨by rw [E1.out, E2.out, E3.out]; rfl, rfl⟩
    · have hb : ((n8 c0 : Int) == 128) = false := by
        rw [beq_eq_false_iff_ne]; intro h; apply hc8; exact n8_inj (by show n8 c0 = 128; omega)
      have Hne := Lib.hid (show bs.head? ≠ some 128#8 by rw [hhead]; intro h; injection h with h; exact hc8 h)
      clear hc0 hcell hhead hc8
      go_upto_region 4 with fail
      go_cut [24, 25, 26] (fun s t u w' => ∃ m : Nat, s = .slice (some ⟨blk, off, none⟩) m m ∧ t = .int .i64 (m : Int) ∧ u = .int .i64 0 ∧ ((m = n ∧ n ≤ 9) ∨ (m = 9 ∧ 9 < n)) ∧ w = w')
      case first =>
        by_cases h9 : 9 < n
        · have q1 : (9 : Int) < (n : Int) := by omega
          have q2 : (9 : Int) ≤ (cap : Int) := by omega
          go_wp2_with fail
          go_meet
          exact ⟨9, rfl, rfl, rfl, Or.inr ⟨rfl, h9⟩, rfl⟩
        · have q1 : ¬ (9 : Int) < (n : Int) := by omega
          have q2 : (n : Int) ≤ (cap : Int) := by omega
          go_wp2_with fail
          go_meet
          exact ⟨n, rfl, rfl, rfl, Or.inl ⟨rfl, by omega⟩, rfl⟩
      case rest =>
        obtain ⟨m, rfl, rfl, rfl, hm, rfl⟩ := hcut
        clear hcell0 hb hpos
        have hm9 : m ≤ 9 := by omega
        go_wp2_with fail
        go_loopw [5, 26] (fun x i wr => ∃ (a X : Nat), x = .int .i64 (X : Int) ∧ i = .int .i64 (a : Int) ∧ a ≤ m ∧ X = Vi.val (bs.take a) ∧ Vi.Lead bs a ∧ w = wr) (fun _ i _ => m - (intOf i).toNat)
        case atStart => exact ⟨0, 0, rfl, rfl, by omega, by simp [Vi.val, Vi.valA], Vi.Lead.zero _, rfl⟩
        case round =>
          obtain ⟨a, X, rfl, rfl, ha, hX, hL, rfl⟩ := hrel
          have HX := Lib.hid hX; have HL := Lib.hid hL
          clear hX hL
          by_cases hlt : a < m
          · have q1 : (a : Int) < (m : Int) := by omega
            obtain ⟨c, hcc⟩ : ∃ c, bs[a]? = some c := ⟨bs[a]'(by rw [← Hn.out]; omega), List.getElem?_eq_getElem _⟩
            obtain ⟨blk', off', e', _, hcl⟩ := Hr.out a (V8 c) (by rw [List.getElem?_map, hcc]; rfl)
            injection e' with e'; injection e' with e1 e2; subst e1; subst e2
            have hX56 : X < 72057594037927936 := by rw [HX.out]; exact Vi.val_take_lt bs a (by omega)
            have Hcc := Lib.hid hcc
            clear hcc
            have h7 := and8_127 c
            obtain ⟨d, hd⟩ : ∃ d, d = c.toNat % 128 := ⟨_, rfl⟩
            rw [← hd] at h7
            have hd128 : d < 128 := by rw [hd]; exact Nat.mod_lt _ (by decide)
            obtain ⟨Y, hY⟩ : ∃ Y, Y = X * 128 + d := ⟨_, rfl⟩
            have hor : bits .or .i64 ((X : Int) * 128) (d : Int) = (Y : Int) := by rw [hY]; exact or64 X d hX56 hd128
            have HY := Lib.hid (show Y = Vi.val (bs.take (a + 1)) by rw [hY, HX.out, hd, ← Vi.val_take_succ bs a c Hcc.out])
            clear hd hY HX
            by_cases hc128 : n8 c < 128
            · have q2 : (n8 c : Int) < 128 := by omega
              obtain ⟨e1, e2, e3⟩ := Vi.Lead.end_ HL.out (by omega) Hne.out Hcc.out hc128
              have E1 := Lib.hid e1; have E2 := Lib.hid e2; have E3 := Lib.hid e3
              clear e1 e2 e3
              go_wp2_with fail
              go_ret3
              exact ⟨by rw [E1.out, E2.out, E3.out, ← HY.out]; rfl, rfl⟩
            · have q2 : ¬ (n8 c : Int) < 128 := by omega
              have HL2 := Lib.hid (HL.out.step Hcc.out (show 128 ≤ n8 c by omega))
              go_wp2_with fail
              exact ⟨⟨a + 1, Y, rfl, by congr 1, by omega, HY.out, HL2.out, trivial⟩, by simp [intOf]; omega⟩
          · obtain rfl : a = m := by omega
            rcases hm with ⟨rfl, hm9⟩ | ⟨rfl, hm9⟩
            · by_cases h9 : a = 9
              · obtain ⟨e1, e2, e3⟩ := Vi.Lead.wide (bs := bs) (by rw [← h9]; exact HL.out) Hne.out
                have E1 := Lib.hid e1; have E2 := Lib.hid e2; have E3 := Lib.hid e3
                have q2 : (9 : Int) ≤ (a : Int) := by omega
                clear e1 e2 e3 h9
                go_wp2_with fail
                go_ret3
                exact ⟨by rw [E1.out, E2.out, E3.out]; rfl, rfl⟩
              · obtain ⟨e1, e2, e3⟩ := Vi.Lead.short (bs := bs) (by rw [← Hn.out]; exact HL.out) (by rw [← Hn.out]; omega) Hne.out
                have E1 := Lib.hid e1; have E2 := Lib.hid e2; have E3 := Lib.hid e3
                have q2 : ¬ (9 : Int) ≤ (a : Int) := by omega
                clear e1 e2 e3 h9
                go_wp2_with fail
                go_ret3
                exact ⟨by rw [E1.out, E2.out, E3.out]; rfl, rfl⟩
            · obtain ⟨e1, e2, e3⟩ := Vi.Lead.wide (bs := bs) HL.out Hne.out
              have E1 := Lib.hid e1; have E2 := Lib.hid e2; have E3 := Lib.hid e3
              have q2 : (9 : Int) ≤ (n : Int) := by omega
              clear e1 e2 e3
              go_wp2_with fail
              go_ret3
              exact ⟨by rw [E1.out, E2.out, E3.out]; rfl, rfl⟩
/-- One block alone may have changed; memory may have grown. -/
abbrev Upd (g : Nat) (w w' : World) : Prop := w.grownBy w' (some g)
theorem Upd.refl (g : Nat) (w : World) : Upd g w w := ⟨rfl, rfl, rfl, Nat.le_refl _, fun _ _ _ => rfl⟩
theorem Upd.trans {g : Nat} {a b c : World} (h : Upd g a b) (k : Upd g b c) : Upd g a c :=
  ⟨k.os.trans h.os, k.tape.trans h.tape, k.output.trans h.output, Nat.le_trans h.size k.size, fun i hi hne => (k.block i (Nat.lt_of_lt_of_le hi h.size) hne).trans (h.block i hi hne)⟩
theorem Upd.of_below {g : Nat} {w w' : World} (h : Below w.heap.size w w') : Upd g w w' := ⟨h.os, h.tape, h.output, h.size, fun k hk _ => h.block k hk⟩
theorem Upd.below {g B : Nat} {w w' : World} (h : Upd g w w') (hB : B ≤ g) (hs : B ≤ w.heap.size) : Below B w w' :=
  (Below.refl B w).grown h hs fun k e => by injection e with e; omega
theorem Upd.setCell {g : Nat} (w : World) (o : Nat) (v : Value) : Upd g w (w.setCell ⟨g, o, none⟩ v) := by
  refine ⟨rfl, rfl, rfl, by simp [World.setCell], fun k hk hne => ?_⟩
  have hne' : g ≠ k := fun h => hne (by rw [h])
  simp [World.setCell, Array.getElem?_modify, hne']
theorem Upd.drewN {g : Nat} {w w' : World} (h : Upd g w w') (n : Nat) : Upd g w (w'.drewN n) := h.trans ⟨rfl, rfl, rfl, Nat.le_refl _, fun _ _ _ => rfl⟩
/-- A reader: its bytes, place and error; its bytes in memory of its own. -/
def RdrIs (T : TypeId) (w : World) (base g : Nat) (A : Option Addr) (n cap : Nat) (bs : List (BitVec 8)) (at' : Nat) (er : Int) : Prop :=
  w.heap[g]? = some (.cells #[.slice A n cap, .int .i64 (at' : Int), .int .i64 er] T (0, 0)) ∧ w.ownsRow base 5 1 (.slice A n cap) n (bs.map V8) ∧ n = bs.length ∧ at' ≤ n ∧ base ≤ g
theorem own_type {w w' : World} {base g n cap : Nat} {A : Option Addr} {xs cs : List Value} {csg : Array Value} {T : TypeId} {fr : Nat × Nat} (ho : w.ownsRow base 5 1 (.slice A n cap) n xs) (hg : w.heap[g]? = some (.cells csg T fr)) (hT : T ≠ 5) (hu : Upd g w w') :
    w'.ownsRow base 5 1 (.slice A n cap) n xs := by
  refine ho.kept hu ?_
  rcases ho.2 with ⟨h, _⟩ | ⟨k, c, cur, h, _, hk, _⟩
  · injection h with h; subst h; exact Or.inl rfl
  · injection h with h; subst h
    right
    simp only [Value.ownBlock, ne_eq, Option.some.injEq]
    intro e; subst e; rw [hg] at hk; injection hk with hk; injection hk with _ hk _; exact hT hk
theorem RdrIs.below {T : TypeId} {w w' : World} {base h n cap at' : Nat} {A : Option Addr} {bs : List (BitVec 8)} {er : Int} (hr : RdrIs T w base h A n cap bs at' er) (hb : Below w.heap.size w w') : RdrIs T w' base h A n cap bs at' er :=
  ⟨(hb.block h (lt_heap hr.1)).trans hr.1, own_below hr.2.1 hb (Nat.le_refl _), hr.2.2⟩
theorem own_cap {w : World} {base : Nat} {t : TypeId} {A : Option Addr} {n cap : Nat} {xs : List Value} (h : w.ownsRow base t 1 (.slice A n cap) n xs) : n ≤ cap ∧ cap ≤ maxLen := by
  obtain ⟨_, _, e, h1, h2, _⟩ := own_form h
  injection e with _ _ e; subst e; exact ⟨h1, h2⟩
theorem rdr_set {T : TypeId} {W : World} {base g n cap at2 : Nat} {A : Option Addr} {bs : List (BitVec 8)} {a0 e0 : Value} {v1 er2 : Int} (hg : W.heap[g]? = some (.cells #[.slice A n cap, a0, e0] T (0, 0))) (hT : T ≠ 5)
    (ho : W.ownsRow base 5 1 (.slice A n cap) n (bs.map V8)) (hn : n = bs.length) (h2 : at2 ≤ n) (hb : base ≤ g) (hv : v1 = (at2 : Int)) :
    Upd g W ((W.setCell ⟨g, 1, none⟩ (.int .i64 v1)).setCell ⟨g, 2, none⟩ (.int .i64 er2)) ∧ RdrIs T ((W.setCell ⟨g, 1, none⟩ (.int .i64 v1)).setCell ⟨g, 2, none⟩ (.int .i64 er2)) base g A n cap bs at2 er2 := by
  have u : Upd g W ((W.setCell ⟨g, 1, none⟩ (.int .i64 v1)).setCell ⟨g, 2, none⟩ (.int .i64 er2)) := (Upd.setCell W 1 _).trans (Upd.setCell _ 2 _)
  refine ⟨u, ?_, own_type (cs := []) ho hg hT u, hn, h2, hb⟩
  have h1 := heap_set hg 1 (.int .i64 v1)
  have h2 := heap_set h1 2 (.int .i64 er2)
  rw [h2, hv]; rfl
namespace Vi
def iX (bs : List (BitVec 8)) (at' : Nat) (er : Int) : Nat := if er = 0 then numX (bs.drop at') else 0
def iAt (bs : List (BitVec 8)) (at' : Nat) (er : Int) : Nat := if er = 0 then at' + numN (bs.drop at') else at'
def iE (bs : List (BitVec 8)) (at' : Nat) (er : Int) : Int := if er = 0 then numE (bs.drop at') else er
theorem iAt_le (bs : List (BitVec 8)) (at' : Nat) (er : Int) (h : at' ≤ bs.length) : iAt bs at' er ≤ bs.length := by
  unfold iAt; split
  · have := (numN_le (bs.drop at')).1; rw [List.length_drop] at this; omega
  · exact h
end Vi
theorem quiet_form (A : Option Addr) (n cap B m : Nat) (bs : List (BitVec 8)) (w : World) (hn : n = bs.length) (hc : n ≤ cap) (hcm : cap ≤ maxLen) (hnil : A = none → n = 0 ∧ cap = 0) (hr : Rd w B A (bs.map V8)) :
    Calls Tryz.prog 177 #[.slice A n cap] (w.drewN m) fun e w' => e = .returned (.tuple #[.int .i64 (Vi.numX bs : Int), .int .i64 (Vi.numN bs : Int), .int .i64 (Vi.numE bs)]) ∧ ∃ k, w' = w.drewN k :=
  (form_calls A n cap B bs (w.drewN m) hn hc hcm hnil hr).mono fun _ _ ⟨he, hw⟩ => ⟨he, m, hw.symm⟩
theorem rd_dropN {w : World} {B blk off : Nat} {bs : List (BitVec 8)} (h : Rd w B (some ⟨blk, off, none⟩) (bs.map V8)) (o : Nat) : Rd w B (some ⟨blk, off + o, none⟩) ((bs.drop o).map V8) := by
  intro k v hv
  rw [List.map_drop, List.getElem?_drop] at hv
  obtain ⟨b, of, e, h1, h2⟩ := h (o + k) v hv
  injection e with e; injection e with e1 e2; subst e1; subst e2
  exact ⟨_, _, rfl, h1, by rw [Nat.add_assoc]; exact h2⟩
set_option maxHeartbeats 4000000 in
set_option maxRecDepth 20000 in
theorem int_calls (g : Nat) (A : Option Addr) (n cap at' base : Nat) (bs : List (BitVec 8)) (er : Int) (w : World) (hr : RdrIs 156 w base g A n cap bs at' er) (hm : n ≤ 1099511627776) :
    Calls Tryz.prog 83 #[.pointer (some ⟨g, 0, none⟩)] w fun e w' => e = .returned (.int .i64 (Vi.iX bs at' er : Int)) ∧ Upd g w w' ∧ RdrIs 156 w' base g A n cap bs (Vi.iAt bs at' er) (Vi.iE bs at' er) := by
  obtain ⟨hg, hown, hn, hat, hbg⟩ := hr
  have c0 : w.cell? ⟨g, 0, none⟩ = some (.slice A n cap) := by rw [cell_heap hg]; rfl
  have c1 : w.cell? ⟨g, 1, none⟩ = some (.int .i64 (at' : Int)) := by rw [cell_heap hg]; rfl
  have c2 : w.cell? ⟨g, 2, none⟩ = some (.int .i64 er) := by rw [cell_heap hg]; rfl
  obtain ⟨o1, o2⟩ := own_cap hown
  have Hg := Lib.hid hg; have Hown := Lib.hid hown; have Hn := Lib.hid hn
  unfold maxLen at o2
  clear hg hown hn
  go_enter Tryz.func83, Tryz.ntmps83
  by_cases he : er = 0
  · subst he
    have hd := Lib.hid (show n - at' = (bs.drop at').length by rw [List.length_drop, ← Hn.out])
    have ha1 : (at' : Int) ≤ (n : Int) := by omega
    have ha2 : (at' : Int) ≤ (cap : Int) := by omega
    have hx := Vi.numX_lt (bs.drop at')
    have hnn := (Vi.numN_le (bs.drop at')).2
    have Hs := Lib.hid (show Vi.iX bs at' 0 = Vi.numX (bs.drop at') ∧ Vi.iAt bs at' 0 = at' + Vi.numN (bs.drop at') ∧ Vi.iE bs at' 0 = Vi.numE (bs.drop at') by unfold Vi.iX Vi.iAt Vi.iE; exact ⟨if_pos rfl, if_pos rfl, if_pos rfl⟩)
    obtain ⟨D, hD⟩ : ∃ D, D = bs.drop at' := ⟨_, rfl⟩
    rw [← hD] at hd hx hnn Hs
    have HD := Lib.hid hD
    clear hD
    have hA : (A = none ∧ n = 0 ∧ cap = 0 ∧ at' = 0) ∨ ∃ blk, A = some ⟨blk, 0, none⟩ := by
      rcases Hown.out.2 with ⟨h, h0⟩ | ⟨k, _, _, h, _⟩
      · injection h with h1 h2 h3; exact Or.inl ⟨h1, h0, h3, by omega⟩
      · injection h with h; exact Or.inr ⟨k, h⟩
    have hsub : (∃ blk, A = some ⟨blk, 0, none⟩ ∧ ¬ at' = cap) ∨ (∃ blk, A = some ⟨blk, 0, none⟩ ∧ at' = cap) ∨ (A = none ∧ n = 0 ∧ cap = 0 ∧ at' = 0) := by
      rcases hA with h | ⟨k, h⟩
      · exact Or.inr (Or.inr h)
      · by_cases hc : at' = cap
        · exact Or.inr (Or.inl ⟨k, h, hc⟩)
        · exact Or.inl ⟨k, h, hc⟩
    clear hA
    rcases hsub with ⟨blk, rfl, hcc⟩ | ⟨blk, rfl, rfl⟩ | ⟨rfl, rfl, rfl, rfl⟩
    · have hne : (cap = at') = False := by rw [eq_iff_iff]; constructor <;> intro hx <;> first | omega | cases hx
      have Hrd := Lib.hid (show Rd w w.heap.size (some ⟨blk, at', none⟩) (D.map V8) by have := rd_dropN (own_rd Hown.out) at'; rw [Nat.zero_add] at this; rw [HD.out]; exact this)
      go_wp2_with fail
      go_quiet ((go_at_call 177; exact quiet_form _ _ _ _ _ D _ hd.out (by omega) (by unfold maxLen; omega) (by intro h; cases h) Hrd.out))
      have hgW : (w.drewN nq).heap[g]? = _ := Hg.out
      have hoW := Hown.out
      have huW : Upd g w (w.drewN nq) := (Upd.refl g w).drewN nq
      have k1 : (w.drewN nq).cell? ⟨g, 1, none⟩ = some (.int .i64 ((at' : Nat) : Int)) := c1
      have hoW : (w.drewN nq).ownsRow base 5 1 _ _ (bs.map V8) := Hown.out
      generalize w.drewN nq = W at *
      have z1 : W.frozen? ⟨g, 1, none⟩ = false := by simp [World.frozen?, hgW]
      have k2 : W.cell? ⟨g, 2, none⟩ = some (.int .i64 0) := by rw [cell_heap hgW]; rfl
      have z2 : W.frozen? ⟨g, 2, none⟩ = false := by simp [World.frozen?, hgW]
      generalize Vi.numX D = X at *
      generalize Vi.numN D = M at *
      generalize Vi.numE D = E at *
      have HgW := Lib.hid hgW; have HoW := Lib.hid hoW; have HuW := Lib.hid huW
      clear hgW hoW huW Hg Hown c0 c1 c2 Hrd
      go_wp2_with fail
      go_ret
      obtain ⟨s1, s2, s3⟩ := Hs.out
      have hAt := Vi.iAt_le bs (at') 0 (by rw [← Hn.out]; omega)
      obtain ⟨u1, u2⟩ := rdr_set (at2 := Vi.iAt bs (at') 0) (v1 := (at' : Int) + (M : Int)) (er2 := E) HgW.out (by decide) HoW.out Hn.out (by rw [← Hn.out] at hAt; exact hAt) hbg (by rw [s2]; omega)
      exact ⟨by rw [s1]; rfl, HuW.out.trans u1, by rw [s3]; exact u2⟩
    · have hz : D = [] := by rw [HD.out]; exact List.drop_eq_nil_of_le (by rw [← Hn.out]; omega)
      have Hrd := Lib.hid (show ∀ A B, Rd w B A (D.map V8) from fun A B => by rw [hz]; exact Rd.nil _ _ _)
      clear hz
      go_wp2_with fail
      go_quiet ((go_at_call 177; exact quiet_form _ _ _ w.heap.size _ D _ (by rw [← hd.out]; omega) (by omega) (by unfold maxLen; omega) (by first | (intro h; cases h; done) | (intro h; omega)) (Hrd.out _ _)))
      have hgW : (w.drewN nq).heap[g]? = _ := Hg.out
      have hoW := Hown.out
      have huW : Upd g w (w.drewN nq) := (Upd.refl g w).drewN nq
      have k1 : (w.drewN nq).cell? ⟨g, 1, none⟩ = some (.int .i64 ((at' : Nat) : Int)) := c1
      have hoW : (w.drewN nq).ownsRow base 5 1 _ _ (bs.map V8) := Hown.out
      generalize w.drewN nq = W at *
      have z1 : W.frozen? ⟨g, 1, none⟩ = false := by simp [World.frozen?, hgW]
      have k2 : W.cell? ⟨g, 2, none⟩ = some (.int .i64 0) := by rw [cell_heap hgW]; rfl
      have z2 : W.frozen? ⟨g, 2, none⟩ = false := by simp [World.frozen?, hgW]
      generalize Vi.numX D = X at *
      generalize Vi.numN D = M at *
      generalize Vi.numE D = E at *
      have HgW := Lib.hid hgW; have HoW := Lib.hid hoW; have HuW := Lib.hid huW
      clear hgW hoW huW Hg Hown c0 c1 c2 Hrd
      go_wp2_with fail
      go_ret
      obtain ⟨s1, s2, s3⟩ := Hs.out
      have hAt := Vi.iAt_le bs (at') 0 (by rw [← Hn.out]; omega)
      obtain ⟨u1, u2⟩ := rdr_set (at2 := Vi.iAt bs (at') 0) (v1 := (at' : Int) + (M : Int)) (er2 := E) HgW.out (by decide) HoW.out Hn.out (by rw [← Hn.out] at hAt; exact hAt) hbg (by rw [s2]; omega)
      exact ⟨by rw [s1]; rfl, HuW.out.trans u1, by rw [s3]; exact u2⟩
    · have Hrd := Lib.hid (show ∀ A B, Rd w B A (D.map V8) from fun A B => by rw [HD.out, show bs = [] from List.eq_nil_of_length_eq_zero Hn.out.symm]; exact Rd.nil _ _ _)
      go_wp2_with fail
      go_quiet ((go_at_call 177; exact quiet_form _ _ _ w.heap.size _ D _ (by rw [← hd.out]) (by omega) (by unfold maxLen; omega) (fun _ => ⟨rfl, rfl⟩) (Hrd.out _ _)))
      have hgW : (w.drewN nq).heap[g]? = _ := Hg.out
      have hoW := Hown.out
      have huW : Upd g w (w.drewN nq) := (Upd.refl g w).drewN nq
      have k1 : (w.drewN nq).cell? ⟨g, 1, none⟩ = some (.int .i64 ((0 : Nat) : Int)) := c1
      have hoW : (w.drewN nq).ownsRow base 5 1 _ _ (bs.map V8) := Hown.out
      generalize w.drewN nq = W at *
      have z1 : W.frozen? ⟨g, 1, none⟩ = false := by simp [World.frozen?, hgW]
      have k2 : W.cell? ⟨g, 2, none⟩ = some (.int .i64 0) := by rw [cell_heap hgW]; rfl
      have z2 : W.frozen? ⟨g, 2, none⟩ = false := by simp [World.frozen?, hgW]
      generalize Vi.numX D = X at *
      generalize Vi.numN D = M at *
      generalize Vi.numE D = E at *
      have HgW := Lib.hid hgW; have HoW := Lib.hid hoW; have HuW := Lib.hid huW
      clear hgW hoW huW Hg Hown c0 c1 c2 Hrd
      go_wp2_with fail
      go_ret
      obtain ⟨s1, s2, s3⟩ := Hs.out
      have hAt := Vi.iAt_le bs (0) 0 (by rw [← Hn.out]; omega)
      obtain ⟨u1, u2⟩ := rdr_set (at2 := Vi.iAt bs (0) 0) (v1 := (M : Int)) (er2 := E) HgW.out (by decide) HoW.out Hn.out (by rw [← Hn.out] at hAt; exact hAt) hbg (by rw [s2]; omega)
      exact ⟨by rw [s1]; rfl, HuW.out.trans u1, by rw [s3]; exact u2⟩
  · have hs : Vi.iX bs at' er = 0 ∧ Vi.iAt bs at' er = at' ∧ Vi.iE bs at' er = er := by unfold Vi.iX Vi.iAt Vi.iE; exact ⟨if_neg he, if_neg he, if_neg he⟩
    have Hs := Lib.hid hs
    have hb : (er != 0) = true := by rw [bne_iff_ne]; exact he
    clear hs he
    go_wp2_with fail
    go_ret
    obtain ⟨s1, s2, s3⟩ := Hs.out
    exact ⟨by rw [s1]; rfl, Upd.refl _ _, by rw [s2, s3]; exact ⟨Hg.out, Hown.out, Hn.out, hat, hbg⟩⟩
theorem Upd.then_below {g : Nat} {w w3 w4 : World} (h : Upd g w w3) (hb : Below w.heap.size w3 w4) : Upd g w w4 :=
  ⟨hb.os.trans h.os, hb.tape.trans h.tape, hb.output.trans h.output, Nat.le_trans h.size hb.size, fun k hk hne => (hb.block k hk).trans (h.block k hk hne)⟩
theorem RdrIs.below2 {T : TypeId} {w w3 w4 : World} {base h n cap at' at2 : Nat} {A : Option Addr} {bs : List (BitVec 8)} {er er2 : Int} (h0 : RdrIs T w base h A n cap bs at2 er2) (hr : RdrIs T w3 base h A n cap bs at' er) (hb : Below w.heap.size w3 w4) : RdrIs T w4 base h A n cap bs at' er := by
  refine ⟨(hb.block h (lt_heap h0.1)).trans hr.1, ⟨hr.2.1.1, ?_⟩, hr.2.2⟩
  rcases hr.2.1.2 with e | ⟨k, c, cur, e1, e2, e3, e4⟩
  · exact Or.inl e
  · refine Or.inr ⟨k, c, cur, e1, e2, (hb.block k ?_).trans e3, e4⟩
    have := h0.2.1.lt k (by rw [e1]; rfl)
    exact this.2
namespace Vi
/-- r gaps are left to be read, from F on, c bytes behind; L has been read. -/
def Goes (N : Nat) (f bel : Int) (D : List (BitVec 8)) (L : List Int) (c r : Nat) (F : Int) : Prop :=
  (rdG N f bel D).2.2 = (rdG r F bel (D.drop c)).2.2 ∧ ((rdG r F bel (D.drop c)).2.2 = 0 → (rdG N f bel D).1 = L ++ (rdG r F bel (D.drop c)).1 ∧ (rdG N f bel D).2.1 = c + (rdG r F bel (D.drop c)).2.1)
theorem Goes.start (N : Nat) (f bel : Int) (D : List (BitVec 8)) : Goes N f bel D [] 0 N f := ⟨by simp, fun _ => ⟨by simp, by simp⟩⟩
theorem Goes.done {N : Nat} {f bel F : Int} {D : List (BitVec 8)} {L : List Int} {c : Nat} (h : Goes N f bel D L c 0 F) : rdG N f bel D = (L, c, 0) := by
  obtain ⟨h1, h2⟩ := h
  obtain ⟨a, b⟩ := h2 rfl
  refine Prod.ext ?_ (Prod.ext ?_ ?_)
  · rw [a]; simp [rdG]
  · rw [b]; simp [rdG]
  · rw [h1]; rfl
theorem Goes.fail1 {N r : Nat} {f bel F : Int} {D : List (BitVec 8)} {L : List Int} {c : Nat} (h : Goes N f bel D L c (r + 1) F) (he : numE (D.drop c) ≠ 0) : rdG N f bel D = ([], 0, numE (D.drop c)) := by
  have e : (rdG (r + 1) F bel (D.drop c)).2.2 = numE (D.drop c) := by rw [rdG, if_pos he]
  have e2 : (rdG N f bel D).2.2 = numE (D.drop c) := h.1.trans e
  have := rdG_err N f bel D (by rw [e2]; exact he)
  exact Prod.ext this.1 (Prod.ext this.2 e2)
theorem Goes.fail2 {N r : Nat} {f bel F : Int} {D : List (BitVec 8)} {L : List Int} {c : Nat} (h : Goes N f bel D L c (r + 1) F) (he : numE (D.drop c) = 0) (hb : bel - F ≤ (numX (D.drop c) : Int)) : rdG N f bel D = ([], 0, 13) := by
  have e : (rdG (r + 1) F bel (D.drop c)).2.2 = 13 := by rw [rdG, if_neg (by rw [he]; simp), if_pos hb]
  have e2 : (rdG N f bel D).2.2 = 13 := h.1.trans e
  have := rdG_err N f bel D (by rw [e2]; decide)
  exact Prod.ext this.1 (Prod.ext this.2 e2)
theorem Goes.step {N r : Nat} {f bel F : Int} {D : List (BitVec 8)} {L : List Int} {c : Nat} (h : Goes N f bel D L c (r + 1) F) (he : numE (D.drop c) = 0) (hb : ¬ bel - F ≤ (numX (D.drop c) : Int)) :
    Goes N f bel D (L ++ [F + (numX (D.drop c) : Int)]) (c + numN (D.drop c)) r (F + (numX (D.drop c) : Int) + 1) := by
  obtain ⟨h1, h2⟩ := h
  rw [rdG, if_neg (by rw [he]; simp), if_neg hb, List.drop_drop] at h1 h2
  unfold Goes
  generalize rdG r (F + (numX (D.drop c) : Int) + 1) bel (D.drop (c + numN (D.drop c))) = R at *
  by_cases hz : R.2.2 = 0
  · rw [if_pos hz] at h1 h2
    refine ⟨by rw [h1, hz], fun _ => ?_⟩
    obtain ⟨a, b⟩ := h2 rfl
    exact ⟨by rw [a]; simp, by rw [b]; show c + (_ + _) = _; omega⟩
  · rw [if_neg hz] at h1
    exact ⟨h1, fun h => absurd h hz⟩
def jL (bs : List (BitVec 8)) (at' : Nat) (er f bel : Int) : List Int := if er = 0 then (rdL f bel (bs.drop at')).1 else []
def jAt (bs : List (BitVec 8)) (at' : Nat) (er f bel : Int) : Nat := if er = 0 then at' + (rdL f bel (bs.drop at')).2.1 else at'
def jE (bs : List (BitVec 8)) (at' : Nat) (er f bel : Int) : Int := if er = 0 then (rdL f bel (bs.drop at')).2.2 else er
theorem jAt_le (bs : List (BitVec 8)) (at' : Nat) (er f bel : Int) (h : at' ≤ bs.length) : jAt bs at' er f bel ≤ bs.length := by
  unfold jAt; split
  · have := (rdL_len f bel (bs.drop at')).1; rw [List.length_drop] at this; omega
  · exact h
theorem iX_zero (bs : List (BitVec 8)) (at' : Nat) : iX bs at' 0 = numX (bs.drop at') ∧ iAt bs at' 0 = at' + numN (bs.drop at') ∧ iE bs at' 0 = numE (bs.drop at') := by
  unfold iX iAt iE; exact ⟨if_pos rfl, if_pos rfl, if_pos rfl⟩
end Vi
/-- What list leaves: as it should be, or an error and the reader anyhow. -/
def ListAns (T : TypeId) (g : Nat) (A : Option Addr) (n cap at' base : Nat) (bs : List (BitVec 8)) (f bel : Int) (w : World) (e : Ending) (w' : World) : Prop :=
  Upd g w w' ∧ ∃ A2 k cap2, e = .returned (.tuple #[.slice A2 k cap2, .int .i64 (Vi.rdL f bel (bs.drop at')).2.2]) ∧ k = (Vi.rdL f bel (bs.drop at')).1.length ∧ w'.ownsRow w.heap.size 3 1 (.slice A2 k cap2) k ((Vi.rdL f bel (bs.drop at')).1.map VI) ∧
    ∃ at2 er2, RdrIs T w' base g A n cap bs at2 er2 ∧ ((Vi.rdL f bel (bs.drop at')).2.2 = 0 → at2 = at' + (Vi.rdL f bel (bs.drop at')).2.1 ∧ er2 = 0)
theorem listAns_err {T : TypeId} {g : Nat} {A : Option Addr} {n cap at' base : Nat} {bs : List (BitVec 8)} {f bel er : Int} {w w' : World} {e : Ending} {at2 : Nat} {er2 : Int} (hu : Upd g w w') (hr : RdrIs T w' base g A n cap bs at2 er2) (h : Vi.rdL f bel (bs.drop at') = ([], 0, er)) (hne : er ≠ 0)
    (he : e = .returned (.tuple #[.slice none 0 0, .int .i64 er])) : ListAns T g A n cap at' base bs f bel w e w' := by
  refine ⟨hu, none, 0, 0, by rw [h]; exact he, by rw [h]; rfl, by rw [h]; exact ⟨rfl, Or.inl ⟨rfl, rfl⟩⟩, at2, er2, hr, fun h0 => ?_⟩
  rw [h] at h0; exact absurd h0 hne
set_option maxHeartbeats 4000000 in
set_option maxRecDepth 20000 in
theorem list_calls (g : Nat) (A : Option Addr) (n cap at' base : Nat) (bs : List (BitVec 8)) (f bel : Int) (w : World) (hr : RdrIs 156 w base g A n cap bs at' 0) (hm : n ≤ 1099511627776) (hf : f ≤ 9223372036854775807) (hbl : bel ≤ 9223372036854775807) (hbm : -9223372036854775808 ≤ bel) :
    Calls Tryz.prog 86 #[.pointer (some ⟨g, 0, none⟩), .int .i64 f, .int .i64 bel] w (ListAns 156 g A n cap at' base bs f bel w) := by
  obtain ⟨i0, hi, hz0, hz1, hz2⟩ := info_parts infoInt
  have Hi := Lib.hid hi; clear hi
  have Hr := Lib.hid hr
  have hgl := lt_heap hr.1
  clear hr
  go_enter Tryz.func86, Tryz.ntmps86
  rcases (by omega : f < 0 ∨ 0 ≤ f) with hf0 | hf0
  · have hE : Vi.rdL f bel (bs.drop at') = ([], 0, 13) := by unfold Vi.rdL; rw [if_pos hf0]
    have HE := Lib.hid hE; clear hE
    go_wp2_with fail
    go_ret2
    exact listAns_err (Upd.refl _ _) Hr.out HE.out (by decide) rfl
  · have hf1 : ¬ f < 0 := by omega
    go_wp2_with fail
    refine (int_calls g A n cap at' base bs 0 w Hr.out hm).mono ?_
    rintro e w1 ⟨rfl, hu1, hr1⟩
    obtain ⟨s1, s2, s3⟩ := Vi.iX_zero bs at'
    rw [s2, s3] at hr1
    rw [s1]
    clear s1 s2 s3
    obtain ⟨D, hD⟩ : ∃ D, D = bs.drop at' := ⟨_, rfl⟩
    rw [← hD] at hr1 ⊢
    have HD := Lib.hid hD; clear hD
    have hx := Vi.numX_lt D
    have c2 : w1.cell? ⟨g, 2, none⟩ = some (.int .i64 (Vi.numE D)) := by rw [cell_heap hr1.1]; rfl
    have hs1 := hu1.size
    have Hu1 := Lib.hid hu1; have Hr1 := Lib.hid hr1
    clear hu1 hr1
    by_cases he : Vi.numE D = 0
    · have HX0 := Lib.hid (show Vi.rdL f bel D = if 0 < Vi.numX D ∧ bel - f < (Vi.numX D : Int) then ([], 0, 13) else
          if (Vi.rdG (Vi.numX D) f bel (D.drop (Vi.numN D))).2.2 = 0 then ((Vi.rdG (Vi.numX D) f bel (D.drop (Vi.numN D))).1, Vi.numN D + (Vi.rdG (Vi.numX D) f bel (D.drop (Vi.numN D))).2.1, 0) else ([], 0, (Vi.rdG (Vi.numX D) f bel (D.drop (Vi.numN D))).2.2) by
        rw [Vi.rdL, if_neg (by omega), if_neg (by rw [he]; simp)])
      rw [he] at c2 Hr1
      have hN := (Vi.numN_le D).1
      obtain ⟨X, hX⟩ : ∃ X, X = Vi.numX D := ⟨_, rfl⟩
      obtain ⟨M, hM⟩ : ∃ M, M = Vi.numN D := ⟨_, rfl⟩
      rw [← hX, ← hM] at HX0
      rw [← hX] at hx ⊢
      rw [← hM] at Hr1 hN
      clear hX hM he
      have hcond : (0 < X ∧ bel - f < (X : Int)) ∨ ¬ (0 < X ∧ bel - f < (X : Int)) := by omega
      rcases hcond with hc | hc
      · rw [if_pos hc] at HX0
        have q1 : (0 : Int) < (X : Int) := by omega
        rcases (by omega : bel ≤ f ∨ f < bel) with hb | hb
        · go_wp2_with fail
          go_ret2
          exact listAns_err Hu1.out Hr1.out (by rw [← HD.out]; exact HX0.out) (by decide) rfl
        · have q2 : ¬ bel ≤ f := by omega
          have q3 : bel - f < (X : Int) := hc.2
          go_wp2_with fail
          go_ret2
          exact listAns_err Hu1.out Hr1.out (by rw [← HD.out]; exact HX0.out) (by decide) rfl
      · rw [if_neg hc] at HX0
        obtain ⟨E2, hE2⟩ : ∃ E2, E2 = D.drop M := ⟨_, rfl⟩
        rw [← hE2] at HX0
        have HE2 := Lib.hid hE2; clear hE2
        have hfb : X = 0 ∨ (f < bel ∧ (X : Int) ≤ bel - f) := by omega
        go_upto_region 6 with fail
        go_cut [37] (fun s w' => s = .bool false ∧ w1 = w')
        case first =>
          rcases hfb with h0 | ⟨h1, h2⟩
          · subst h0
            go_wp2_with fail
            go_meet
            exact ⟨rfl, rfl⟩
          · have q1 : ¬ bel ≤ f := by omega
            have q2 : ¬ bel - f < (X : Int) := by omega
            by_cases hz : 0 < X
            · have q3 : (0 : Int) < (X : Int) := by omega
              go_wp2_with fail
              go_meet
              exact ⟨rfl, rfl⟩
            · have q3 : ¬ (0 : Int) < (X : Int) := by omega
              go_wp2_with fail
              go_meet
              exact ⟨rfl, rfl⟩
        case rest =>
          obtain ⟨rfl, rfl⟩ := hcut
          clear c2
          go_wp2_with fail
          go_loopw [1, 9, 39] (fun F' l i wr => ∃ (a r c : Nat) (L : List Int) (F : Int), i = .int .i64 (a : Int) ∧ F' = .int .i64 F ∧ a + r = X ∧ Vi.Goes X f bel E2 L c r F ∧ 0 ≤ F ∧ (r = 0 ∨ F ≤ bel) ∧ L.length ≤ c ∧ M + c ≤ D.length ∧
            RdrIs 156 wr base g A n cap bs (at' + (M + c)) 0 ∧ wr.ownsRow w.heap.size 3 1 l L.length (L.map VI) ∧ Upd g w wr) (fun _ _ i _ => X - (intOf i).toNat)
          case atStart =>
            exact ⟨0, X, 0, [], f, rfl, rfl, by omega, Vi.Goes.start _ _ _ _, hf0, by omega, by simp, by omega, Hr1.out, ⟨rfl, Or.inl ⟨rfl, rfl⟩⟩, Hu1.out⟩
          case round =>
            obtain ⟨a, r, c, L, F, rfl, rfl, har, hG, hF0, hFb, hLc, hMc, hrd, hown, hu⟩ := hrel
            obtain ⟨A3, cap3, rfl, hc3, hm3, _⟩ := own_form hown
            have HG := Lib.hid hG; have Hrd := Lib.hid hrd; have Hown := Lib.hid hown; have Hu := Lib.hid hu
            have hsz := hu.size
            have hDn : D.length ≤ n := by rw [HD.out, List.length_drop, ← hrd.2.2.1]; omega
            clear hG hrd hown hu
            cases r with
            | zero =>
              have hdone := HG.out.done
              have Hdone := Lib.hid hdone
              have haX : ¬ (a : Int) < (X : Int) := by omega
              have hL64 : L.length ≤ 1099511627776 := by omega
              clear hdone har
              have hmk := make0_int L.length (by omega)
              have Hmade := Lib.hid (World.ownsRow_made (base := wr.heap.size) (e := 3) (size := 1) wr (zerosI L.length) L.length (Nat.le_refl _) (by unfold maxLen; omega) (by rw [zerosI_size]; omega))
              have Hown2 := Lib.hid (own_below Hown.out ((Below.refl wr.heap.size wr).alloc (Nat.le_refl _) (.cells (zerosI L.length) 3)) (Nat.le_refl _))
              have hrdL := HX0.out
              rw [Hdone.out] at hrdL
              have HrdL := Lib.hid (show Vi.rdL f bel D = (L, M + c, 0) from hrdL)
              clear hrdL
              go_wp2_with (at_builtin; refine wpList_append_rd rfl _ _ 84 rfl wr.heap.size 3 i0 _ 8 descInts Hi.out hz0 hz1 hz2 rfl _ 0 [] rfl Hmade.out _ A3 L.length cap3 (L.map VI) rfl (by rw [List.length_map]) (own_nil Hown2.out) (own_rd Hown2.out) (vi_one _) (by unfold maxLen; omega) (by omega) (by simp) ?_)
              intro v4 w4 hown4 hg4
              obtain ⟨A4, cap4, rfl, hc4, hm4, _⟩ := own_form hown4
              have hb4 : Below wr.heap.size wr w4 := ((Below.refl wr.heap.size wr).alloc (Nat.le_refl _) _).grown hg4 (by simp) fun k hk => (Hmade.out.lt k hk).1
              have Hown4 := Lib.hid hown4; have Hb4 := Lib.hid hb4
              clear hown4 hg4 hb4 Hown2 Hmade hmk
              go_wp2_with fail
              go_ret2
              refine ⟨Hu.out.trans (Upd.of_below Hb4.out), A4, L.length, cap4, by rw [← HD.out, HrdL.out]; rfl, by rw [← HD.out, HrdL.out], by rw [← HD.out, HrdL.out]; exact own_base Hown4.out hsz, _, _, Hrd.out.below Hb4.out, fun _ => ⟨by rw [← HD.out, HrdL.out], rfl⟩⟩
            | succ r =>
              have haX : (a : Int) < (X : Int) := by omega
              go_wp2_with fail
              refine (int_calls g A n cap (at' + (M + c)) base bs 0 wr Hrd.out hm).mono ?_
              rintro e w3 ⟨rfl, hu3, hr3⟩
              obtain ⟨s1, s2, s3⟩ := Vi.iX_zero bs (at' + (M + c))
              have hdd : bs.drop (at' + (M + c)) = E2.drop c := by rw [HE2.out, HD.out, List.drop_drop, List.drop_drop]
              rw [hdd] at s1 s2 s3
              rw [s2, s3] at hr3
              rw [s1]
              clear s1 s2 s3 hdd
              obtain ⟨G, hG⟩ : ∃ G, G = E2.drop c := ⟨_, rfl⟩
              rw [← hG] at hr3 ⊢
              have HGd := Lib.hid hG; clear hG
              have hx3 := Vi.numX_lt G
              have hN3 := Vi.numN_le G
              have k2 : w3.cell? ⟨g, 2, none⟩ = some (.int .i64 (Vi.numE G)) := by rw [cell_heap hr3.1]; rfl
              have hs3 := hu3.size
              have Hown3 := Lib.hid (Hown.out.kept hu3 (by
                rcases Hown.out.2 with ⟨h, _⟩ | ⟨b, _, _, h, hb, _⟩
                · injection h with h; subst h; exact Or.inl rfl
                · injection h with h; subst h; right; simp [Value.ownBlock]; omega))
              have Hu3 := Lib.hid (Hu.out.trans hu3); have Hr3 := Lib.hid hr3
              clear hu3 hr3 Hown Hu Hrd
              have hFb2 : F ≤ bel := by omega
              clear hFb
              by_cases he3 : Vi.numE G = 0
              · rw [he3] at k2 Hr3
                obtain ⟨x, hxx⟩ : ∃ x, x = Vi.numX G := ⟨_, rfl⟩
                by_cases hge : bel - F ≤ (Vi.numX G : Int)
                · have hfl := HG.out.fail2 (by rw [← HGd.out]; exact he3) (by rw [← HGd.out]; exact hge)
                  have hrdL := HX0.out
                  rw [hfl] at hrdL
                  have HrdL := Lib.hid (show Vi.rdL f bel D = ([], 0, 13) from hrdL)
                  clear hrdL hfl
                  rw [← hxx] at hge hx3 ⊢
                  have Hk := Lib.hid he3; have Hxx := Lib.hid hxx
                  clear he3 hxx
                  go_wp2_with fail
                  go_ret2
                  exact listAns_err Hu3.out Hr3.out (by rw [← HD.out]; exact HrdL.out) (by decide) rfl
                · have hst := HG.out.step (by rw [← HGd.out]; exact he3) (by rw [← HGd.out]; exact hge)
                  have hpos := Vi.numN_pos he3
                  rw [← HGd.out, ← hxx] at hst
                  rw [← hxx] at hge hx3 ⊢
                  have hGl : G.length = D.length - (M + c) := by rw [HGd.out, HE2.out, List.drop_drop, List.length_drop]
                  obtain ⟨M3, hM3⟩ : ∃ M3, M3 = Vi.numN G := ⟨_, rfl⟩
                  rw [← hM3] at hst hN3 hpos Hr3
                  obtain ⟨hN3a, hN3b⟩ := hN3
                  have hfit : c + M3 + M ≤ D.length := by omega
                  have Hst := Lib.hid hst
                  have hlt : ¬ bel - F ≤ (x : Int) := hge
                  clear hst he3 hxx hM3 hGl hN3a hge
                  have Hown4 := Lib.hid (own_below Hown3.out ((Below.refl w3.heap.size w3).alloc (Nat.le_refl _) (.cells #[.int .i64 (F + (x : Int))] 3)) (Nat.le_refl _))
                  go_wp2_with (at_builtin; refine wpList_append_rd rfl _ _ 84 rfl w.heap.size 3 i0 _ 8 descInts Hi.out hz0 hz1 hz2 rfl _ L.length (L.map VI) rfl Hown4.out _ (some ⟨w3.heap.size, 0, none⟩) 1 1 [.int .i64 (F + (x : Int))] rfl rfl (by intro h; cases h) (rd_fresh _ _ _ _ _ _ rfl rfl) (by intro u hu; simp at hu; subst hu; rfl) (by unfold maxLen; omega) (by omega) (by simp; omega) ?_)
                  intro v4 w4 hown4 hg4
                  have e4 : L.map VI ++ [.int .i64 (F + (x : Int))] = (L ++ [F + (x : Int)]).map VI := by simp
                  rw [e4, show L.length + 1 = (L ++ [F + (x : Int)]).length by simp] at hown4
                  obtain ⟨A5, cap5, rfl, hc5, hm5, _⟩ := own_form hown4
                  have hb4 : Below w.heap.size w3 w4 := ((Below.refl w.heap.size w3).alloc (by omega) _).grown hg4 (by simp; omega) fun k hk => (Hown4.out.lt k hk).1
                  have Hu4 := Lib.hid (Hu3.out.then_below hb4)
                  have Hr4 := Lib.hid (RdrIs.below2 Hr.out Hr3.out hb4)
                  have Hown5 := Lib.hid hown4
                  have hll : (L ++ [F + (x : Int)]).length ≤ c + M3 := by simp; omega
                  have Hll := Lib.hid hll
                  have hat4 : at' + (M + c) + M3 = at' + (M + (c + M3)) := by omega
                  rw [hat4] at Hr4
                  have hF2 : F + ((x : Int) + 1) = F + (x : Int) + 1 := by omega
                  clear hown4 hg4 hb4 e4 Hown4 Hown3 Hr3 Hu3 hll hat4
                  go_wp2_with fail
                  refine ⟨⟨a + 1, r, c + M3, _, F + (x : Int) + 1, by congr 1, by congr 1, by omega, Hst.out, by omega, by omega, Hll.out, by omega, Hr4.out, Hown5.out, Hu4.out⟩, by simp [intOf]; omega⟩
              · have hfl := HG.out.fail1 (by rw [← HGd.out]; exact he3)
                rw [← HGd.out] at hfl
                have hrdL := HX0.out
                rw [hfl, if_neg he3] at hrdL
                have HrdL := Lib.hid (show Vi.rdL f bel D = ([], 0, Vi.numE G) from hrdL)
                have hb : (Vi.numE G != 0) = true := by rw [bne_iff_ne]; exact he3
                have Hne := Lib.hid he3
                clear hrdL hfl he3
                go_wp2_with fail
                go_quiet (fail)
                go_wp2_with fail
                go_ret2
                exact listAns_err (Hu3.out.drewN nq) (RdrIs.below Hr3.out (below_drewN (Below.refl _ _) nq)) (by rw [← HD.out]; exact HrdL.out) Hne.out rfl
    · have HX0 := Lib.hid (show Vi.rdL f bel D = ([], 0, Vi.numE D) by rw [Vi.rdL, if_neg (by omega), if_pos he])
      have hb : (Vi.numE D != 0) = true := by rw [bne_iff_ne]; exact he
      have Hne := Lib.hid he
      clear he
      go_wp2_with fail
      go_quiet (fail)
      go_wp2_with fail
      go_ret2
      exact listAns_err (Hu1.out.drewN nq) (RdrIs.below Hr1.out (below_drewN (Below.refl _ _) nq)) (by rw [← HD.out]; exact HX0.out) Hne.out rfl
theorem i16s (bs : List (BitVec 8)) (at' : Nat) (f bel : Int) : Vi.jL bs at' 0 f bel = (Vi.rdL f bel (bs.drop at')).1 ∧ Vi.jAt bs at' 0 f bel = at' + (Vi.rdL f bel (bs.drop at')).2.1 ∧ Vi.jE bs at' 0 f bel = (Vi.rdL f bel (bs.drop at')).2.2 := by
  unfold Vi.jL Vi.jAt Vi.jE; exact ⟨if_pos rfl, if_pos rfl, if_pos rfl⟩
def ReadAns (T : TypeId) (g : Nat) (A : Option Addr) (n cap at' base : Nat) (bs : List (BitVec 8)) (er f bel : Int) (w : World) (e : Ending) (w' : World) : Prop :=
  Upd g w w' ∧ ∃ A2 k cap2, e = .returned (.slice A2 k cap2) ∧ k = (Vi.jL bs at' er f bel).length ∧ w'.ownsRow w.heap.size 3 1 (.slice A2 k cap2) k ((Vi.jL bs at' er f bel).map VI) ∧
    RdrIs T w' base g A n cap bs (Vi.jAt bs at' er f bel) (Vi.jE bs at' er f bel)
set_option maxHeartbeats 4000000 in
theorem List_calls (g : Nat) (A : Option Addr) (n cap at' base : Nat) (bs : List (BitVec 8)) (er f bel : Int) (w : World) (hr : RdrIs 156 w base g A n cap bs at' er) (hm : n ≤ 1099511627776) (hf : f ≤ 9223372036854775807) (hbl : bel ≤ 9223372036854775807) (hbm : -9223372036854775808 ≤ bel) :
    Calls Tryz.prog 41 #[.pointer (some ⟨g, 0, none⟩), .int .i64 f, .int .i64 bel] w (ReadAns 156 g A n cap at' base bs er f bel w) := by
  have c1 : w.cell? ⟨g, 1, none⟩ = some (.int .i64 (at' : Int)) := by rw [cell_heap hr.1]; rfl
  have c2 : w.cell? ⟨g, 2, none⟩ = some (.int .i64 er) := by rw [cell_heap hr.1]; rfl
  have Hr := Lib.hid hr
  clear hr
  go_enter Tryz.func41, Tryz.ntmps41
  by_cases he : er = 0
  · subst he
    go_wp2_with fail
    refine (list_calls g A n cap at' base bs f bel w Hr.out hm hf hbl hbm).mono ?_
    rintro e w1 ⟨hu, A2, k, cap2, rfl, hk, hown, at2, er2, hr2, hok⟩
    obtain ⟨s1, s2, s3⟩ := i16s bs at' f bel
    have hle := Vi.jAt_le bs at' 0 f bel (by rw [← Hr.out.2.2.1]; exact Hr.out.2.2.2.1)
    have herr := Vi.rdL_err f bel (bs.drop at')
    rw [← s1] at hk hown
    rw [← s2, ← s3] at hok
    rw [← s3] at herr ⊢
    rw [← s1] at herr
    generalize hEE : Vi.jE bs at' 0 f bel = E at *
    have HE := Lib.hid hEE
    clear s1 s2 s3 hEE c1 c2
    by_cases hz : E = 0
    · subst hz
      obtain ⟨rfl, rfl⟩ := hok rfl
      have k2 : w1.cell? ⟨g, 2, none⟩ = some (.int .i64 0) := by rw [cell_heap hr2.1]; rfl
      have Hu := Lib.hid hu; have Hown := Lib.hid hown; have Hr2 := Lib.hid hr2; have Hk := Lib.hid hk
      clear hu hown hr2 hk herr hle hok
      go_wp2_with fail
      go_ret
      exact ⟨Hu.out, A2, k, cap2, rfl, Hk.out, Hown.out, by rw [HE.out]; exact Hr2.out⟩
    · obtain ⟨z1, z2⟩ := herr hz
      have k1 : w1.cell? ⟨g, 1, none⟩ = some (.int .i64 (at2 : Int)) := by rw [cell_heap hr2.1]; rfl
      have k2 : w1.cell? ⟨g, 2, none⟩ = some (.int .i64 er2) := by rw [cell_heap hr2.1]; rfl
      have y1 : w1.frozen? ⟨g, 1, none⟩ = false := by simp [World.frozen?, hr2.1]
      have y2 : w1.frozen? ⟨g, 2, none⟩ = false := by simp [World.frozen?, hr2.1]
      have hb1 : (E == 0) = false := by rw [beq_eq_false_iff_ne]; exact hz
      have hb2 : (E != 0) = true := by rw [bne_iff_ne]; exact hz
      obtain ⟨u1, u2⟩ := rdr_set (at2 := at') (v1 := (at' : Int)) (er2 := E) hr2.1 (by decide) hr2.2.1 hr2.2.2.1 Hr.out.2.2.2.1 hr2.2.2.2.2 rfl
      have hat : Vi.jAt bs at' 0 f bel = at' := by
        have := (i16s bs at' f bel).2.1; rw [this]
        have h0 := (Vi.rdL_err f bel (bs.drop at') (by rw [← (i16s bs at' f bel).2.2, HE.out]; exact hz)).2
        omega
      have Hu := Lib.hid (hu.trans u1); have Hr2 := Lib.hid u2; have Hat := Lib.hid hat; have Z1 := Lib.hid z1
      clear hu hown hr2 hk herr hle hok z1 z2 hz hat u1 u2
      go_wp2_with fail
      go_ret
      refine ⟨Hu.out, none, 0, 0, rfl, by rw [Z1.out]; rfl, by rw [Z1.out]; exact ⟨rfl, Or.inl ⟨rfl, rfl⟩⟩, by rw [HE.out, Hat.out]; exact Hr2.out⟩
  · have hs : Vi.jL bs at' er f bel = [] ∧ Vi.jAt bs at' er f bel = at' ∧ Vi.jE bs at' er f bel = er := by unfold Vi.jL Vi.jAt Vi.jE; exact ⟨if_neg he, if_neg he, if_neg he⟩
    have Hs := Lib.hid hs
    have hb : (er != 0) = true := by rw [bne_iff_ne]; exact he
    clear hs he
    go_wp2_with fail
    go_ret
    obtain ⟨s1, s2, s3⟩ := Hs.out
    refine ⟨Upd.refl _ _, none, 0, 0, rfl, by rw [s1]; rfl, by rw [s1]; exact ⟨rfl, Or.inl ⟨rfl, rfl⟩⟩, by rw [s2, s3]; exact Hr.out⟩
set_option maxHeartbeats 1000000 in
theorem err_calls (g : Nat) (A : Option Addr) (n cap at' base : Nat) (bs : List (BitVec 8)) (er : Int) (w : World) (hr : RdrIs 156 w base g A n cap bs at' er) :
    Calls Tryz.prog 43 #[.pointer (some ⟨g, 0, none⟩)] w fun e w' => e = .returned (.tuple #[.int .i64 er, .int .i64 (at' : Int)]) ∧ ∃ k, w' = w.drewN k := by
  have c1 : w.cell? ⟨g, 1, none⟩ = some (.int .i64 (at' : Int)) := by rw [cell_heap hr.1]; rfl
  have c2 : w.cell? ⟨g, 2, none⟩ = some (.int .i64 er) := by rw [cell_heap hr.1]; rfl
  clear hr
  go_enter Tryz.func43, Tryz.ntmps43
  go_wp2_with fail
  go_quiet (fail)
  go_wp2_with fail
  go_ret2
  exact ⟨rfl, nq, rfl⟩
def lft (bs : List (BitVec 8)) (at' : Nat) (er : Int) : Int := if er = 0 then ((bs.length - at' : Nat) : Int) else 0
set_option maxHeartbeats 1000000 in
theorem left_calls (g : Nat) (A : Option Addr) (n cap at' base : Nat) (bs : List (BitVec 8)) (er : Int) (w : World) (hr : RdrIs 156 w base g A n cap bs at' er) (hm : n ≤ 1099511627776) :
    Calls Tryz.prog 45 #[.pointer (some ⟨g, 0, none⟩)] w fun e w' => e = .returned (.int .i64 (lft bs at' er)) ∧ ∃ k, w' = w.drewN k := by
  have c0 : w.cell? ⟨g, 0, none⟩ = some (.slice A n cap) := by rw [cell_heap hr.1]; rfl
  have c1 : w.cell? ⟨g, 1, none⟩ = some (.int .i64 (at' : Int)) := by rw [cell_heap hr.1]; rfl
  have c2 : w.cell? ⟨g, 2, none⟩ = some (.int .i64 er) := by rw [cell_heap hr.1]; rfl
  have Hn := Lib.hid hr.2.2.1; have hat := hr.2.2.2.1
  clear hr
  go_enter Tryz.func45, Tryz.ntmps45
  by_cases he : er = 0
  · subst he
    have He := Lib.hid (show lft bs at' 0 = ((bs.length - at' : Nat) : Int) from if_pos rfl)
    have hs : wrap64 ((n : Int) - (at' : Int)) = (n : Int) - (at' : Int) := IntWalk.wrap64_in _ (by omega)
    go_wp2_with fail
    go_quiet (fail)
    go_wp2_with fail
    go_ret
    refine ⟨?_, nq, rfl⟩
    rw [He.out, ← Hn.out]
    show Ending.returned (Value.int IntKind.i64 ((n : Int) - (at' : Int))) = _
    congr 2; omega
  · have hb : (er != 0) = true := by rw [bne_iff_ne]; exact he
    have He := Lib.hid (show lft bs at' er = 0 from if_neg he)
    clear he
    go_wp2_with fail
    go_ret
    exact ⟨by rw [He.out]; rfl, 0, rfl⟩
set_option maxHeartbeats 1000000 in
theorem newReader_calls (A : Option Addr) (n cap B : Nat) (bs : List (BitVec 8)) (w : World) (hn : n = bs.length) (hm : n ≤ 1099511627776) (hB : B ≤ w.heap.size) (hr : Rd w B A (bs.map V8)) :
    Calls Tryz.prog 39 #[.slice A n cap] w fun e w' => ∃ g A' cap', e = .returned (.pointer (some ⟨g, 0, none⟩)) ∧ RdrIs 156 w' w.heap.size g A' n cap' bs 0 0 ∧ Below w.heap.size w w' := by
  have Hn := Lib.hid hn; have Hr := Lib.hid hr
  clear hn hr
  go_enter Tryz.func39, Tryz.ntmps39
  go_wp2_with fail
  refine (grown_calls A n cap 0 B bs w Hn.out (by omega) hB Hr.out).mono ?_
  rintro e w1 ⟨A1, cap1, rfl, hown1, hb1⟩
  have Hown1 := Lib.hid hown1; have Hb1 := Lib.hid hb1
  have hs1 := hb1.size
  clear hown1 hb1
  go_wp2_with fail
  go_ret
  refine ⟨w1.heap.size, A1, cap1, rfl, ⟨heap_alloc_new _ _, own_below Hown1.out ((Below.refl w1.heap.size w1).alloc (Nat.le_refl _) _) (Nat.le_refl _), Hn.out, Nat.zero_le _, hs1⟩, Hb1.out.alloc hs1 _⟩
theorem num_calls (x : Int) (w : World) (h0 : 0 ≤ x) (h1 : x ≤ 100) :
    Calls Tryz.prog 44 #[.int .i64 x] w fun e w' => e = .returned (.int .i64 x) ∧ w = w' := by
  have h : IntKind.i64.wrap x = x := IntWalk.i64_in _ (by omega)
  go_enter Tryz.func44, Tryz.ntmps44
  go_wp2
  go_ret
  exact ⟨rfl, rfl⟩
def b1 : List (BitVec 8) := [7#8, 130#8, 44#8]
def b7 : List (BitVec 8) := [7#8, 130#8, 44#8, 3#8, 0#8, 1#8, 3#8]
theorem f_put : [7#8] ++ Vi.form (300 : Int).toNat = b1 := by decide +kernel
theorem f_putB : Vi.putB b1 3 [3, 5, 9] = b7 := by decide +kernel
theorem f_putE : Vi.putE 3 [3, 5, 9] = 0 := by decide +kernel
theorem f_len : (Vi.len (300 : Int).toNat : Int) = 2 := by decide +kernel
theorem f_1 : Vi.iX b7 0 0 = 7 ∧ Vi.iAt b7 0 0 = 1 ∧ Vi.iE b7 0 0 = 0 := by decide +kernel
theorem f_2 : Vi.iX b7 1 0 = 300 ∧ Vi.iAt b7 1 0 = 3 ∧ Vi.iE b7 1 0 = 0 := by decide +kernel
theorem f_3 : Vi.jL b7 3 0 3 10 = [3, 5, 9] ∧ Vi.jAt b7 3 0 3 10 = 7 ∧ Vi.jE b7 3 0 3 10 = 0 := by decide +kernel
theorem f_4 : lft b7 7 0 = 0 := by decide +kernel
theorem f_5 : Vi.iX b7 7 0 = 0 := by decide +kernel
set_option maxHeartbeats 4000000 in
theorem first_calls (w : World) : Calls Tryz.prog 34 #[] w fun e w' => e = .returned (.bool true) ∧ Below w.heap.size w w' := by
  go_enter Tryz.func34, Tryz.ntmps34
  go_wp2_with fail
  refine (Put_calls (some ⟨w.heap.size, 0, none⟩) 1 1 (w.heap.size + 1) [7#8] 300 _ (by decide) rfl (by decide) (by simp) (rd_fresh _ _ _ _ _ _ rfl rfl)).mono ?_
  rintro e w1 ⟨A1, n1, cap1, rfl, hn1, hown1, hb1⟩
  rw [f_put] at hn1 hown1
  obtain rfl : n1 = 3 := hn1
  have hb1' : Below w.heap.size w w1 := ((Below.refl _ _).alloc (Nat.le_refl _) _).trans (hb1.mono (by simp))
  have hs1 := hb1'.size
  have Hb1 := Lib.hid hb1'; have Hown1 := Lib.hid hown1
  clear hb1 hown1 hb1'
  go_wp2_with fail
  have ha1 : Below w1.heap.size w1 (w1.alloc (.cells #[.int .i64 3, .int .i64 5, .int .i64 9] 3)) := (Below.refl _ _).alloc (Nat.le_refl _) _
  refine (putList_calls A1 3 cap1 w1.heap.size b1 3 (some ⟨w1.heap.size, 0, none⟩) 3 3 (w1.heap.size + 1) [3, 5, 9] _ rfl (by decide) rfl (by decide) (by decide) (by decide) (by simp) (by simp) ((own_rd Hown1.out).below ha1 (Nat.le_refl _)) (rd_fresh _ _ _ _ _ _ rfl rfl) (by intro z hz; simp at hz; omega) (by decide)).mono ?_
  rintro e w2 ⟨A2, n2, cap2, rfl, hn2, hown2, hb2⟩
  rw [f_putB] at hn2 hown2
  rw [f_putE]
  obtain rfl : n2 = 7 := hn2
  have hb2' : Below w.heap.size w w2 := Hb1.out.trans ((ha1.mono hs1).trans (hb2.mono (by simp; omega)))
  have hs2 := hb2'.size
  have Hb2 := Lib.hid hb2'; have Hown2 := Lib.hid hown2
  clear hb2 hown2 hb2' ha1 Hown1
  go_wp2_with fail
  have ha2 : Below w2.heap.size w2 (w2.alloc (.cells #[.int .u8 7, .int .u8 130, .int .u8 44, .int .u8 3, .int .u8 0, .int .u8 1, .int .u8 3] 5)) := (Below.refl _ _).alloc (Nat.le_refl _) _
  refine (same_calls A2 (some ⟨w2.heap.size, 0, none⟩) 7 cap2 7 7 w2.heap.size (w2.heap.size + 1) b7 b7 _ rfl rfl (fun h => (own_nil Hown2.out h).1) (by intro h; cases h) ((own_rd Hown2.out).below ha2 (Nat.le_refl _)) (rd_fresh _ _ _ _ _ _ rfl rfl)).mono ?_
  rintro e w' ⟨rfl, rfl⟩
  rw [decide_eq_true rfl]
  have Hb3 := Lib.hid (Hb2.out.trans (ha2.mono hs2))
  have Hown3 := Lib.hid (own_below Hown2.out ha2 (Nat.le_refl _))
  clear ha2
  generalize w2.alloc (.cells #[.int .u8 7, .int .u8 130, .int .u8 44, .int .u8 3, .int .u8 0, .int .u8 1, .int .u8 3] 5) = w3 at *
  have hs3 := Hb3.out.size
  go_wp2_with (first
    | (go_at_call 44; refine (num_calls 0 _ (by omega) (by omega)).mono ?_; rintro e w' ⟨rfl, rfl⟩)
    | (go_at_call 82; refine (len_calls 300 _ (by omega)).mono ?_; rintro e w' ⟨rfl, rfl⟩; rw [f_len]))
  refine (newReader_calls A2 7 cap2 w3.heap.size b7 w3 rfl (by decide) (Nat.le_refl _) (own_rd Hown3.out)).mono ?_
  rintro e w4 ⟨g, A4, cap4, rfl, hr4, hb4⟩
  have Hb4 := Lib.hid (Hb3.out.trans (hb4.mono hs3)); have Hr4 := Lib.hid hr4
  have hg := hr4.2.2.2.2
  clear hb4 hr4 Hown3
  go_wp2_with fail
  refine (int_calls g A4 7 cap4 0 _ b7 0 w4 Hr4.out (by decide)).mono ?_
  rintro e w5 ⟨rfl, hu5, hr5⟩
  rw [f_1.1]
  rw [f_1.2.1, f_1.2.2] at hr5
  have Hb5 := Lib.hid (Hb4.out.trans (hu5.below (by omega) Hb4.out.size)); have Hr5 := Lib.hid hr5
  clear hu5 hr5
  go_wp2_with fail
  refine (int_calls g A4 7 cap4 1 _ b7 0 w5 Hr5.out (by decide)).mono ?_
  rintro e w6 ⟨rfl, hu6, hr6⟩
  rw [f_2.1]
  rw [f_2.2.1, f_2.2.2] at hr6
  have Hb6 := Lib.hid (Hb5.out.trans (hu6.below (by omega) Hb5.out.size)); have Hr6 := Lib.hid hr6
  clear hu6 hr6
  go_wp2_with fail
  refine (List_calls g A4 7 cap4 3 _ b7 0 3 10 w6 Hr6.out (by decide) (by decide) (by decide) (by decide)).mono ?_
  rintro e w7 ⟨hu7, A7, n7, cap7, rfl, hn7, hown7, hr7⟩
  rw [f_3.1] at hn7 hown7
  rw [f_3.2.1, f_3.2.2] at hr7
  obtain rfl : n7 = 3 := hn7
  have Hb7 := Lib.hid (Hb6.out.trans (hu7.below (by omega) Hb6.out.size)); have Hr7 := Lib.hid hr7; have Hown7 := Lib.hid hown7
  clear hu7 hr7 hown7
  go_wp2_with fail
  refine (err_calls g A4 7 cap4 7 _ b7 0 w7 Hr7.out).mono ?_
  rintro e w8 ⟨rfl, k8, rfl⟩
  have Hb8 := Lib.hid (below_drewN Hb7.out k8)
  have Hr8 := Lib.hid (RdrIs.below Hr7.out (below_drewN (Below.refl _ _) k8))
  have Hown8 := Lib.hid (own_below Hown7.out (below_drewN (Below.refl _ _) k8) (Nat.le_refl _))
  clear Hb7 Hr7 Hown7
  generalize w7.drewN k8 = w8 at *
  have hs8 := Hb8.out.size
  go_wp2_with fail
  have ha8 : Below w8.heap.size w8 (w8.alloc (.cells #[.int .i64 3, .int .i64 5, .int .i64 9] 3)) := (Below.refl _ _).alloc (Nat.le_refl _) _
  obtain ⟨p1, p2⟩ := own_cap Hown8.out
  refine (sameI_calls A7 (some ⟨w8.heap.size, 0, none⟩) 3 cap7 3 3 w8.heap.size (w8.heap.size + 1) [3, 5, 9] [3, 5, 9] _ rfl rfl p1 (by decide) p2 (by decide) ((own_rd Hown8.out).below ha8 (Nat.le_refl _)) (rd_fresh _ _ _ _ _ _ rfl rfl)).mono ?_
  rintro e w9 ⟨rfl, k9, rfl⟩
  rw [decide_eq_true rfl]
  have Hb9 := Lib.hid (below_drewN (Hb8.out.trans (ha8.mono hs8)) k9)
  have Hr9 := Lib.hid (RdrIs.below (RdrIs.below Hr8.out ha8) (below_drewN (Below.refl _ _) k9))
  clear ha8 Hown8
  generalize (w8.alloc (.cells #[.int .i64 3, .int .i64 5, .int .i64 9] 3)).drewN k9 = w9 at *
  go_wp2_with (go_at_call 44; refine (num_calls 0 _ (by omega) (by omega)).mono ?_; rintro e w' ⟨rfl, rfl⟩)
  refine (left_calls g A4 7 cap4 7 _ b7 0 w9 Hr9.out (by decide)).mono ?_
  rintro e w10 ⟨rfl, k10, rfl⟩
  rw [f_4]
  have Hb10 := Lib.hid (below_drewN Hb9.out k10)
  have Hr10 := Lib.hid (RdrIs.below Hr9.out (below_drewN (Below.refl _ _) k10))
  clear Hb9 Hr9
  generalize w9.drewN k10 = w10 at *
  go_wp2_with fail
  refine (int_calls g A4 7 cap4 7 _ b7 0 w10 Hr10.out (by decide)).mono ?_
  rintro e w11 ⟨rfl, hu11, hr11⟩
  rw [f_5]
  have Hb11 := Lib.hid (Hb10.out.trans (hu11.below (by omega) Hb10.out.size))
  clear hu11 hr11
  go_wp2_with fail
  go_ret
  exact ⟨rfl, Hb11.out⟩
open Go.ChangeShapes Go.WideShapes Go.ChangeAt Go.RowKit
theorem own : ownKnob Tryz.prog.godebug = none := by kernel_rfl
theorem laidOut : laidOutB Tryz.prog = true := by kernel_rfl
/-- A slice of bytes, of ints, that came in. -/
def In8 (W : World) (A : Option Addr) (n cap : Nat) (bs : List (BitVec 8)) : Prop :=
  n = bs.length ∧ n ≤ cap ∧ cap ≤ maxLen ∧ (A = none → n = 0 ∧ cap = 0) ∧ Rd W W.heap.size A (bs.map V8)
def InI (W : World) (A : Option Addr) (n cap : Nat) (zs : List Int) : Prop :=
  n = zs.length ∧ n ≤ cap ∧ cap ≤ maxLen ∧ (A = none → n = 0 ∧ cap = 0) ∧ Rd W W.heap.size A (zs.map VI) ∧ ∀ z ∈ zs, -9223372036854775808 ≤ z ∧ z ≤ 9223372036854775807
theorem int8 {z : Int} (h : (Lit.int .u8 z).wf = true) : z = (n8 (BitVec.ofInt 8 z) : Int) := by
  have hb := bounds_u8 h
  unfold n8
  rw [BitVec.toNat_ofInt]
  omega
theorem open_u8s {H : Type} {enc : TypeId × Value → H} {W : World} {A : Option Addr} {n cap : Nat} {d : DataW H} {p : List MemPlace} {base : Nat} {sp : Nat → Bool} {held : Bool}
    (h0 : DataW.Trod enc Tryz.prog W base sp held 22 (.slice A n cap) d p) : ∃ bs, In8 W A n cap bs := by
  obtain ⟨fuel, hf⟩ := h0
  rcases open_ints descU8s descU8 (by kernel_rfl) hf with ⟨hcs, _⟩ | ⟨x, l, c, zs, hcs, _, hl, hm, hz, _, hcell, hwz⟩
  · simp [Value.cells] at hcs
    obtain ⟨rfl, rfl, rfl⟩ := hcs
    exact ⟨[], rfl, Nat.le_refl _, by unfold maxLen; omega, fun _ => ⟨rfl, rfl⟩, Rd.nil _ _ _⟩
  · simp [Value.cells] at hcs
    obtain ⟨rfl, rfl, rfl⟩ := hcs
    have hlen : n ≤ zs.length := by rw [hz]; split <;> omega
    refine ⟨(zs.take n).map (BitVec.ofInt 8), by simp; omega, hl, hm, (by intro h; cases h), ?_⟩
    intro k v hv
    have hk : k < n := by
      have := (List.getElem?_eq_some_iff.1 hv).1
      simp at this; omega
    have hc := hcell k (by omega)
    obtain ⟨b, off, spot⟩ := x
    have hspot : spot = none := by
      have h1 := hcell 0 (by omega)
      simpa [Addr.add] using World.cell?_spot h1
    subst hspot
    rw [Addr.add_lit] at hc
    refine ⟨b, off, rfl, block_lt_of_cell hc, ?_⟩
    rw [hc, ← hv]
    have e : zs.getD k 0 = zs[k]'(by omega) := by simp [List.getD, List.getElem?_eq_getElem (show k < zs.length by omega)]
    have hw := hwz _ (List.getElem_mem (show k < zs.length by omega))
    rw [e, int8 hw]
    simp [List.getElem?_map, List.getElem?_take, hk, List.getElem?_eq_getElem (show k < zs.length by omega)]
theorem open_i64s {H : Type} {enc : TypeId × Value → H} {W : World} {A : Option Addr} {n cap : Nat} {d : DataW H} {p : List MemPlace} {base : Nat} {sp : Nat → Bool} {held : Bool}
    (h0 : DataW.Trod enc Tryz.prog W base sp held 84 (.slice A n cap) d p) : ∃ zs, InI W A n cap zs := by
  obtain ⟨fuel, hf⟩ := h0
  rcases open_ints descInts descInt (by kernel_rfl) hf with ⟨hcs, _⟩ | ⟨x, l, c, zs, hcs, _, hl, hm, hz, _, hcell, hwz⟩
  · simp [Value.cells] at hcs
    obtain ⟨rfl, rfl, rfl⟩ := hcs
    exact ⟨[], rfl, Nat.le_refl _, by unfold maxLen; omega, fun _ => ⟨rfl, rfl⟩, Rd.nil _ _ _, by simp⟩
  · simp [Value.cells] at hcs
    obtain ⟨rfl, rfl, rfl⟩ := hcs
    have hlen : n ≤ zs.length := by rw [hz]; split <;> omega
    refine ⟨zs.take n, by simp; omega, hl, hm, (by intro h; cases h), ?_, fun z hz => bounds_i64 (hwz z (List.mem_of_mem_take hz))⟩
    intro k v hv
    have hk : k < n := by
      have := (List.getElem?_eq_some_iff.1 hv).1
      simp at this; omega
    have hc := hcell k (by omega)
    obtain ⟨b, off, spot⟩ := x
    have hspot : spot = none := by
      have h1 := hcell 0 (by omega)
      simpa [Addr.add] using World.cell?_spot h1
    subst hspot
    rw [Addr.add_lit] at hc
    refine ⟨b, off, rfl, block_lt_of_cell hc, ?_⟩
    rw [hc, ← hv]
    have e : zs.getD k 0 = zs[k]'(by omega) := by simp [List.getD, List.getElem?_eq_getElem (show k < zs.length by omega)]
    rw [e]
    simp [List.getElem?_map, List.getElem?_take, hk, List.getElem?_eq_getElem (show k < zs.length by omega)]
open Go.ChangeShapes Go.WideShapes Go.ChangeAt Go.RowKit
theorem rd_pre {w : World} {B : Nat} {A : Option Addr} {X : List (BitVec 8)} (n : Nat) (h : Rd w B A (X.map V8)) : Rd w B A ((X.take n).map V8) := fun k v hv => h k v (by
  rw [List.map_take, List.getElem?_take] at hv; split at hv
  · exact hv
  · cases hv)
open Go.ChangeShapes Go.WideShapes Go.ChangeAt Go.RowKit
open Go.ChangeShapes Go.WideShapes Go.ChangeAt Go.RowKit
open Go.ChangeShapes Go.WideShapes Go.ChangeAt Go.RowKit
open Go.ChangeShapes Go.WideShapes Go.ChangeAt Go.RowKit
namespace Vi
/-- The rest's size. -/
def abm (g m : Int) : Int := if g.tmod m < 0 then -(g.tmod m) else g.tmod m
theorem abm_bound (g m : Int) (hm : 0 < m) : 0 ≤ abm g m ∧ abm g m < m := by
  unfold abm
  have h1 := Int.tmod_lt_of_pos g hm
  have h2 := Int.lt_tmod_of_pos g hm
  split <;> omega
/-- An item's numbers: rising by its gaps. -/
def numsL : Int → List Int → List Int
  | _, [] => []
  | a, g :: t => (a + abm g 1125899906842624) :: numsL (a + abm g 1125899906842624 + 1) t
def numF (x : Int) : Int := abm x 1048576
theorem numsL_length : ∀ (l : List Int) (a : Int), (numsL a l).length = l.length
  | [], _ => rfl
  | g :: t, a => by rw [numsL, List.length_cons, List.length_cons, numsL_length t]
theorem numsL_rise : ∀ (l : List Int) (a : Int), rise a (numsL a l) = true
  | [], _ => rfl
  | g :: t, a => by
    have := abm_bound g 1125899906842624 (by decide)
    rw [numsL, rise, numsL_rise t, decide_eq_true (by omega)]; rfl
theorem numsL_bound : ∀ (l : List Int) (a : Int), ∀ x ∈ numsL a l, a ≤ x ∧ x < a + 1125899906842624 * l.length
  | [], _ => by simp [numsL]
  | g :: t, a => by
    have := abm_bound g 1125899906842624 (by decide)
    intro x hx
    rw [numsL, List.mem_cons] at hx
    rw [List.length_cons]
    rcases hx with rfl | hx
    · omega
    · have := numsL_bound t _ x hx; omega
end Vi
def VT (X F : Int) (M : Bool) (A : Option Addr) (n cap : Nat) : Value := .agg #[.int .i64 X, .int .i64 F, .bool M, .slice A n cap]
theorem tmod_wrap (g m : Int) (hm : 0 < m) (hb : m ≤ 1125899906842624) : wrap64 (g.tmod m) = g.tmod m := by
  have h1 := Int.tmod_lt_of_pos g hm
  have h2 := Int.lt_tmod_of_pos g hm
  exact IntWalk.wrap64_in _ (by omega)
set_option maxHeartbeats 4000000 in
set_option maxRecDepth 20000 in
theorem numbers_calls (X F : Int) (M : Bool) (A : Option Addr) (n cap B : Nat) (zs : List Int) (w : World) (hn : n = zs.length) (hB : B ≤ w.heap.size) (hr : Rd w B A (zs.map VI)) :
    Calls Tryz.prog 35 #[VT X F M A n cap] w fun e w' => ∃ A2 m cap2, e = .returned (.tuple #[.int .i64 (Vi.numF F), .slice A2 m cap2]) ∧ m = (Vi.numsL (Vi.numF F) (zs.take 300)).length ∧
      w'.ownsRow w.heap.size 3 1 (.slice A2 m cap2) m ((Vi.numsL (Vi.numF F) (zs.take 300)).map VI) ∧ Below w.heap.size w w' := by
  have hFb' : 0 ≤ Vi.numF F ∧ Vi.numF F < 1048576 := Vi.abm_bound F 1048576 (by decide)
  have HF := Lib.hid (show (if F.tmod 1048576 < 0 then -(F.tmod 1048576) else F.tmod 1048576) = Vi.numF F from rfl)
  generalize Vi.numF F = f at *
  have hFw := tmod_wrap F 1048576 (by decide) (by decide)
  obtain ⟨i0, hi, hz0, hz1, hz2⟩ := info_parts infoInt
  have Hi := Lib.hid hi; clear hi
  have Hn := Lib.hid hn; have Hr := Lib.hid hr
  clear hn hr
  unfold VT
  go_enter Tryz.func35, Tryz.ntmps35
  go_upto_if 13 with fail
  obtain ⟨w1, hw1⟩ : ∃ x, x = w.alloc (Obj.cells #[.int .i64 X, .int .i64 F, .bool M, .slice A n cap] 86) := ⟨_, rfl⟩
  rw [← hw1]
  have hs1 : w.heap.size < w1.heap.size := by rw [hw1]; simp
  have hc3 : w1.cell? ⟨w.heap.size, 3, none⟩ = some (.slice A n cap) := by rw [hw1]; simp [go_sem]
  have Hb1 := Lib.hid (show Below w.heap.size w w1 by rw [hw1]; exact (Below.refl _ _).alloc (Nat.le_refl _) _)
  clear hw1
  have hFt := Int.tmod_lt_of_pos F (show (0 : Int) < 1048576 by decide)
  have hFu := Int.lt_tmod_of_pos F (show (0 : Int) < 1048576 by decide)
  generalize F.tmod 1048576 = T at *
  go_cut [4] (fun s w' => s = .int .i64 f ∧ w1 = w')
  case first =>
    by_cases hT : T < 0
    · go_wp2_with fail
      go_meet
      refine ⟨?_, rfl⟩
      rw [← HF.out, if_pos hT]
      try rw [IntWalk.wrap64_in _ (by omega)]
    · go_wp2_with fail
      go_meet
      refine ⟨?_, rfl⟩
      rw [← HF.out, if_neg (by omega)]
  case rest =>
    obtain ⟨rfl, rfl⟩ := hcut
    clear hFw hFt hFu HF
    obtain ⟨gs, hgs⟩ : ∃ g, g = zs.take 300 := ⟨_, rfl⟩
    obtain ⟨k, hk⟩ : ∃ k, k = gs.length := ⟨_, rfl⟩
    have hk1 : k = min 300 n := by rw [hk, hgs, List.length_take, ← Hn.out]
    have HR := Lib.hid (show Vi.numsL f gs = Vi.numsL f gs from rfl)
    have Hk := Lib.hid hk; have Hgs := Lib.hid hgs
    clear hk hgs
    go_wp2_with fail
    go_loopw [5, 6, 7, 8] (fun at' l i _ wr => ∃ (a : Nat) (L : List Int) (h : Int), i = .int .i64 (a : Int) ∧ at' = .int .i64 h ∧ a ≤ k ∧ L.length = a ∧ L ++ Vi.numsL h (gs.drop a) = Vi.numsL f gs ∧ f ≤ h ∧ h ≤ f + 1125899906842624 * a ∧
        wr.ownsRow w1.heap.size 3 1 l a (L.map VI) ∧ Below w1.heap.size w1 wr) (fun _ _ i _ _ => k - (intOf i).toNat)
    case atStart => exact ⟨0, [], f, rfl, rfl, by omega, rfl, by simp, by omega, by omega, ⟨rfl, Or.inl ⟨rfl, rfl⟩⟩, Below.refl _ _⟩
    case round =>
      obtain ⟨a, L, h, rfl, rfl, ha, hL, hLn, hh1, hh2, hown, hbl⟩ := hrel
      obtain ⟨A1, cap1, rfl, hc1, hm1, _⟩ := own_form hown
      have hsz := hbl.size
      have hc3w : wr.cell? ⟨w.heap.size, 3, none⟩ = some (.slice A n cap) := by rw [hbl.cell (show w.heap.size < w1.heap.size by omega)]; exact hc3
      have Hrw := Lib.hid (Hr.out.below (Hb1.out.trans (hbl.mono (by omega))) hB)
      have HLn := Lib.hid hLn; have Hown := Lib.hid hown; have Hbl := Lib.hid hbl; have HL := Lib.hid hL
      clear hLn hown hbl hL hc3
      by_cases hlt : a < k
      · have q1 : (a : Int) < (n : Int) := by omega
        have q2 : (a : Int) < 300 := by omega
        obtain ⟨z, hz⟩ : ∃ z, zs[a]? = some z := ⟨zs[a]'(by rw [← Hn.out]; omega), List.getElem?_eq_getElem _⟩
        obtain ⟨b, off, rfl, hb, hc⟩ := rd_get Hrw.out hz
        have hd : gs.drop a = z :: gs.drop (a + 1) := by
          have hz' : gs[a]? = some z := by rw [Hgs.out, List.getElem?_take_of_lt (by omega)]; exact hz
          rw [List.drop_eq_getElem_cons (List.getElem?_eq_some_iff.1 hz').1, (List.getElem?_eq_some_iff.1 hz').2]
        have Hd := Lib.hid hd
        have hab := Vi.abm_bound z 1125899906842624 (by decide)
        have HD := Lib.hid (show (if z.tmod 1125899906842624 < 0 then -(z.tmod 1125899906842624) else z.tmod 1125899906842624) = Vi.abm z 1125899906842624 from rfl)
        have HX := Lib.hid (show (L ++ [h + Vi.abm z 1125899906842624]) ++ Vi.numsL (h + Vi.abm z 1125899906842624 + 1) (gs.drop (a + 1)) = Vi.numsL f gs by rw [← HLn.out, Hd.out, Vi.numsL, List.append_assoc]; rfl)
        clear hd hz
        have hzt := Int.tmod_lt_of_pos z (show (0 : Int) < 1125899906842624 by decide)
        have hzu := Int.lt_tmod_of_pos z (show (0 : Int) < 1125899906842624 by decide)
        generalize Vi.abm z 1125899906842624 = d at *
        go_upto_if 35 with fail
        generalize z.tmod 1125899906842624 = t at *
        go_cut [8] (fun s w' => s = .int .i64 d ∧ wr = w')
        case first =>
          by_cases hT : t < 0
          · go_wp2_with fail
            go_meet
            refine ⟨?_, rfl⟩
            rw [← HD.out, if_pos hT]
            try rw [IntWalk.wrap64_in _ (by omega)]
          · go_wp2_with fail
            go_meet
            refine ⟨?_, rfl⟩
            rw [← HD.out, if_neg (by omega)]
        case rest =>
          obtain ⟨rfl, rfl⟩ := hcut
          clear hzt hzu HD
          have Hown2 := Lib.hid (own_below Hown.out ((Below.refl wr.heap.size wr).alloc (Nat.le_refl _) (.cells #[.int .i64 (h + d)] 3)) (Nat.le_refl _))
          have hab1 : f ≤ h + d + 1 := by omega
          have hab2 : h + d + 1 ≤ f + 1125899906842624 * ((a + 1 : Nat) : Int) := by omega
          have Hab1 := Lib.hid hab1; have Hab2 := Lib.hid hab2
          clear hab2 hab1
          go_wp2_with (at_builtin; refine wpList_append_rd rfl _ _ 84 rfl w1.heap.size 3 i0 _ 8 descInts Hi.out hz0 hz1 hz2 rfl _ a (L.map VI) rfl Hown2.out _ (some ⟨wr.heap.size, 0, none⟩) 1 1 [.int .i64 (h + d)] rfl rfl (by intro h; cases h) (rd_fresh _ _ _ _ _ _ rfl rfl) (by intro u hu; simp at hu; subst hu; rfl) (by unfold maxLen; omega) (by omega) (by simp; omega) ?_)
          intro v4 w4 hown4 hg4
          have e4 : L.map VI ++ [.int .i64 (h + d)] = (L ++ [h + d]).map VI := by simp
          rw [e4] at hown4
          obtain ⟨A4, cap4, rfl, hc4, hm4, _⟩ := own_form hown4
          have Hown4 := Lib.hid hown4
          have hb4 : Below w1.heap.size w1 w4 := (Hbl.out.alloc hsz _).grown hg4 (by simp; omega) fun k hk => (Hown2.out.lt k hk).1
          have Hb4 := Lib.hid hb4
          clear hown4 hg4 hb4 e4 Hown2
          go_wp2_with fail
          exact ⟨⟨a + 1, _, h + d + 1, by congr 1, rfl, by omega, by rw [List.length_append, HL.out]; rfl, HX.out, Hab1.out, Hab2.out, Hown4.out, Hb4.out⟩, by simp [intOf]; omega⟩
      · obtain rfl : a = k := by omega
        have Hk3 := Lib.hid (show (n ≤ 300 → a = n) ∧ (¬ n ≤ 300 → a = 300) by omega)
        clear hk1
        have hx : gs.drop a = [] := List.drop_eq_nil_of_le (by rw [← Hk.out]; exact Nat.le_refl _)
        have hx2 := HLn.out
        rw [hx, Vi.numsL, List.append_nil] at hx2
        have Hx := Lib.hid hx2; clear hx hx2
        have Hlen := Lib.hid (show a = (Vi.numsL f gs).length by rw [Vi.numsL_length]; exact Hk.out)
        have hbF := Lib.hid (Hb1.out.trans (Hbl.out.mono (by omega)))
        have hfin : ∃ A2 m cap2, Ending.returned (.tuple #[.int .i64 f, .slice A1 a cap1]) = .returned (.tuple #[.int .i64 f, .slice A2 m cap2]) ∧ m = (Vi.numsL f (zs.take 300)).length ∧
            wr.ownsRow w.heap.size 3 1 (.slice A2 m cap2) m ((Vi.numsL f (zs.take 300)).map VI) ∧ Below w.heap.size w wr := by
          rw [← Hgs.out]
          refine ⟨A1, a, cap1, rfl, Hlen.out, ?_, hbF.out⟩
          rw [← Hx.out]; exact own_base Hown.out (by omega)
        have Hfin := Lib.hid hfin
        clear hfin
        by_cases hn3 : n ≤ 300
        · obtain rfl : a = n := Hk3.out.1 hn3
          go_wp2_with fail
          go_ret2
          exact Hfin.out
        · obtain rfl : a = 300 := Hk3.out.2 hn3
          have q1 : (300 : Int) < (n : Int) := by omega
          go_wp2_with fail
          go_ret2
          exact Hfin.out
open Go.ChangeShapes Go.WideShapes Go.ChangeAt Go.RowKit
theorem open_item {H : Type} {enc : TypeId × Value → H} {W : World} {v : Value} {d : DataW H} {p : List MemPlace} {base b0 : Nat} {sp : Nat → Bool} {held : Bool} {r : Reach}
    (hv : Value.okWide Tryz.prog W r b0 86 v) (h : DataW.Trod enc Tryz.prog W base sp held 86 v d p) : ∃ X F M A n cap zs, v = VT X F M A n cap ∧ InI W A n cap zs := by
  obtain ⟨c0, c1, c2, c3, y0, y1, y2, y3, m, rfl, rfl, rfl, hy0, hy1, hy2, hy3⟩ := Joins.open_agg4 Tryz.underlying86 (by kernel_rfl) (by kernel_rfl) hv h
  obtain ⟨X, hX, _, _⟩ := DataW.trod_int (k := .i64) (by kernel_rfl) hy0
  obtain rfl : c0 = .int .i64 X := by simpa using hX
  obtain ⟨F, hF, _, _⟩ := DataW.trod_int (k := .i64) (by kernel_rfl) hy1
  obtain rfl : c1 = .int .i64 F := by simpa using hF
  obtain ⟨M, hM, _⟩ := DataW.trod_bool (by kernel_rfl) hy2
  obtain rfl : c2 = .bool M := by simpa using hM
  have hs : ∃ A n cap, c3 = .slice A n cap := by
    rcases open_ints (t := 84) descInts descInt (by kernel_rfl) hy3 with ⟨hcs, _⟩ | ⟨x, l, c, zs, hcs, _⟩
    · exact ⟨none, 0, 0, by simpa using hcs⟩
    · exact ⟨some x, l, c, by simpa using hcs⟩
  obtain ⟨A, n, cap, rfl⟩ := hs
  obtain ⟨zs, hb⟩ := open_i64s (A := A) (n := n) (cap := cap) (d := y3.1) (p := y3.2) (enc := enc) (W := W) (base := base) (sp := sp) (held := held) ⟨m, hy3⟩
  exact ⟨X, F, M, A, n, cap, zs, rfl, hb⟩
open Go.ChangeShapes Go.WideShapes Go.ChangeAt Go.RowKit
theorem sizeItem : (Tryz.prog.info? 86).map (·.size) = some 4 := by kernel_rfl
theorem ld_item (blk off : Nat) (X F : Int) (M : Bool) (A : Option Addr) (n cap : Nat) (w : World) (h0 : w.cell? ⟨blk, off, none⟩ = some (.int .i64 X)) (h1 : w.cell? ⟨blk, off + 1, none⟩ = some (.int .i64 F)) (h2 : w.cell? ⟨blk, off + 2, none⟩ = some (.bool M))
    (h3 : w.cell? ⟨blk, off + 3, none⟩ = some (.slice A n cap)) : (loadVar 86 ⟨blk, off, none⟩).run Tryz.prog w = .ok (VT X F M A n cap) w := by
  refine run_loadVar_mid w blk off _ [.int .i64 X, .int .i64 F, .bool M, .slice A n cap] _ ?_ Tryz.underlying86 rfl (by rw [sizeItem]; rfl)
  intro j v hv
  match j, hv with
  | 0, hv => cases hv; exact h0
  | 1, hv => cases hv; exact h1
  | 2, hv => cases hv; exact h2
  | 3, hv => cases hv; exact h3
  | j + 4, hv => cases hv
/-- A load of an item, by what it answers. -/
def CanIt (w : World) (v : Value) : Prop := ∃ u p, v = .pointer (some p) ∧ (loadVar 86 p).run Tryz.prog w = .ok u w
noncomputable def itV (w : World) (v : Value) : Value := by
  classical
  exact if h : CanIt w v then h.choose else undef
theorem itV_eq {w : World} {p : Addr} {u : Value} (h : (loadVar 86 p).run Tryz.prog w = .ok u w) : itV w (.pointer (some p)) = u := by
  have hc : CanIt w (.pointer (some p)) := ⟨u, p, rfl, h⟩
  unfold itV
  rw [dif_pos hc]
  obtain ⟨p', e, h2⟩ := hc.choose_spec
  injection e with e; injection e with e; subst e
  rw [h] at h2
  injection h2 with h2
  exact h2.symm
section
variable {dst : Option Tmp} {ty : TypeId} {pos : String} {af : Array Edge} {gd : Option (Nat × Bool)} {x : Operand} {a : Act} {w : World} {K : Act → World → Prop} {Q : Exit → Act → World → Prop}
theorem load_it (h : CanIt w (a.eval x)) : Oper.wp Tryz.prog ⟨dst, .load 86 x, ty, pos, af, gd⟩ a w K Q = K (a.put dst (itV w (a.eval x))) w := by
  obtain ⟨u, p, hv, h⟩ := h
  rw [hv, itV_eq h]
  unfold Oper.wp execOp
  simp only [hv, Instr.loadAt, Instr.sureAddr, Sem.run_bind, Sem.run_pure, Result.andThen_ok, h]
  rfl
end
attribute [local go_sem ↓] load_it
namespace Vi
/-- An item: X, From, Many, Gaps. -/
abbrev ItA := Int × Int × Bool × List Int
def itL (q : ItA) : List Int := numsL (numF q.2.1) (q.2.2.2.take 300)
def itB (q : ItA) : List (BitVec 8) := if q.2.2.1 = true then putL (numF q.2.1) (itL q) else form q.1.toNat
theorem itL_ok (q : ItA) : putOk (numF q.2.1) (itL q) = true ∧ (itL q).length ≤ 300 ∧ (∀ x ∈ itL q, 0 ≤ x ∧ x < 4611686018427387904) ∧ 0 ≤ numF q.2.1 ∧ numF q.2.1 < 1048576 := by
  have hf : 0 ≤ numF q.2.1 ∧ numF q.2.1 < 1048576 := abm_bound q.2.1 1048576 (by decide)
  have hl : (q.2.2.2.take 300).length ≤ 300 := by rw [List.length_take]; omega
  refine ⟨?_, by unfold itL; rw [numsL_length]; exact hl, fun x hx => ?_, hf⟩
  · unfold putOk itL; rw [decide_eq_true hf.1, numsL_rise]; rfl
  · have := numsL_bound _ _ x hx
    omega
theorem itB_len (q : ItA) (hq : q.1 < 9223372036854775808) : 1 ≤ (itB q).length ∧ (itB q).length ≤ 2709 := by
  unfold itB
  split
  · obtain ⟨h1, h2, h3, h4, h5⟩ := itL_ok q
    unfold putL
    rw [if_pos h1, List.length_append, form_length]
    have a := len_pos (itL q).length
    have b := len_nine (x := (itL q).length) (by omega)
    have hr : rise (numF q.2.1) (itL q) = true := numsL_rise _ _
    have c := gapsL_len (itL q) (numF q.2.1) (fun x hx => by have := h3 x hx; omega) hr
    omega
  · rw [form_length]
    have a := len_pos q.1.toNat
    have b := len_nine (x := q.1.toNat) (by omega)
    omega
end Vi
end Go.Proofs.YtmeoafodcniliaaGreatDoor
