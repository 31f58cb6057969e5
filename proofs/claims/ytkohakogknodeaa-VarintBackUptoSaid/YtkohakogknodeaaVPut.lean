/- Len, grown, put, Put of both -/
import Derived.Test.YtkohakogknodeaaInts
import Derived.Test.YtkohakogknodeaaVarL
import Derived.Laws.CopyOwn
namespace Go.Proofs.Ytkohakogknodeaa
open Go.RowKit
set_option linter.unusedSimpArgs false
set_option linter.unusedVariables false
namespace Vi
theorem len_step (X m : Nat) (h1 : 1 ≤ m) (h : 128 ≤ X / 128 ^ (m - 1)) : m + 1 ≤ len X ∧ X / 128 ^ (m - 1) / 128 = X / 128 ^ (m + 1 - 1) := by
  have p : 0 < 128 ^ (m - 1) := Nat.pow_pos (by decide)
  have e : 128 ^ m = 128 ^ (m - 1) * 128 := by rw [← Nat.pow_succ]; congr 1; omega
  refine ⟨?_, ?_⟩
  · have : 128 ^ m ≤ X := by
      rw [e, Nat.mul_comm]; exact (Nat.le_div_iff_mul_le p).1 h
    exact (len_lt h1).2 this
  · rw [Nat.div_div_eq_div_mul, ← e]; rfl
theorem len_done (X m : Nat) (h1 : 1 ≤ m) (hm : m ≤ len X) (h : ¬ 128 ≤ X / 128 ^ (m - 1)) : m = len X := by
  have p : 0 < 128 ^ (m - 1) := Nat.pow_pos (by decide)
  have e : 128 ^ m = 128 ^ (m - 1) * 128 := by rw [← Nat.pow_succ]; congr 1; omega
  have : X < 128 ^ m := by
    rw [e, Nat.mul_comm]; exact (Nat.div_lt_iff_lt_mul p).1 (by omega)
  have := (len_le h1).2 this
  omega
theorem len_neg {x : Int} (h : x < 0) : len x.toNat = 1 := by
  have : x.toNat = 0 := by omega
  rw [this]; rfl
end Vi
set_option maxHeartbeats 400000 in
theorem len_calls (x : Int) (w : World) (hx : x ≤ 9223372036854775807) :
    Calls Try.prog 18 #[.int .i64 x] w fun e w' => e = .returned (.int .i64 (Vi.len x.toNat : Int)) ∧ w = w' := by
  go_enter Try.func18, Try.ntmps18
  rcases (by omega : x < 0 ∨ 0 ≤ x) with hneg | hpos
  · have he := Vi.len_neg hneg
    have He := Lib.hid he; clear he
    have h128 : ¬ 128 ≤ x := by omega
    go_wp2_with fail
    go_loopw [0, 3] (fun x' n' wr => x' = .int .i64 x ∧ n' = .int .i64 1 ∧ w = wr) (fun _ _ _ => 0)
    case atStart => exact ⟨rfl, rfl, rfl⟩
    case round =>
      obtain ⟨rfl, rfl, rfl⟩ := hrel
      go_wp2_with fail
      go_ret
      exact ⟨by rw [He.out]; rfl, rfl⟩
  · obtain ⟨X, rfl⟩ : ∃ X : Nat, x = (X : Int) := ⟨x.toNat, by omega⟩
    have hX : X < 9223372036854775808 := by omega
    have h9 := Vi.len_nine hX
    go_wp2_with fail
    go_loopw [0, 3] (fun x' n' wr => ∃ m Y : Nat, x' = .int .i64 (Y : Int) ∧ n' = .int .i64 (m : Int) ∧ 1 ≤ m ∧ m ≤ Vi.len X ∧ Y = X / 128 ^ (m - 1) ∧ w = wr) (fun x' _ _ => (intOf x').toNat)
    case atStart => exact ⟨1, X, rfl, rfl, by omega, Vi.len_pos X, by simp, rfl⟩
    case round =>
      obtain ⟨m, Y, rfl, rfl, h1, h2, hY, rfl⟩ := hrel
      by_cases hge : 128 ≤ Y
      · have q1 : (128 : Int) ≤ (Y : Int) := by omega
        obtain ⟨s1, s2⟩ := Vi.len_step X m h1 (by rw [← hY]; exact hge)
        have hYX : Y ≤ X := by rw [hY]; exact Nat.div_le_self _ _
        have hYb : Y ≤ 9223372036854775807 := by omega
        have S1 := Lib.hid s1; have S2 := Lib.hid (show Y / 128 = X / 128 ^ (m + 1 - 1) by rw [hY]; exact s2)
        clear s1 s2 hY hYX
        go_wp2_with fail
        exact ⟨⟨m + 1, Y / 128, by congr 1, by congr 1, by omega, S1.out, S2.out, trivial⟩, by simp [intOf]; omega⟩
      · have q1 : ¬ (128 : Int) ≤ (Y : Int) := by omega
        have hd := Vi.len_done X m h1 h2 (by rw [← hY]; exact hge)
        have Hd := Lib.hid hd
        clear hd hY
        go_wp2_with fail
        go_ret
        exact ⟨by rw [← show m = _ from Hd.out]; rfl, rfl⟩
set_option maxHeartbeats 400000 in
theorem rlen_calls (x : Int) (w : World) (hx : x ≤ 9223372036854775807) :
    Calls Try.prog 19 #[.int .i64 x] w fun e w' => e = .returned (.int .i64 (Vi.len x.toNat : Int)) ∧ w = w' := by
  go_enter Try.func19, Try.ntmps19
  rcases (by omega : x < 0 ∨ 0 ≤ x) with hneg | hpos
  · have he := Vi.len_neg hneg
    have He := Lib.hid he; clear he
    have h128 : ¬ 128 ≤ x := by omega
    go_wp2_with fail
    go_loopw [0, 3] (fun x' n' wr => x' = .int .i64 x ∧ n' = .int .i64 1 ∧ w = wr) (fun _ _ _ => 0)
    case atStart => exact ⟨rfl, rfl, rfl⟩
    case round =>
      obtain ⟨rfl, rfl, rfl⟩ := hrel
      go_wp2_with fail
      go_ret
      exact ⟨by rw [He.out]; rfl, rfl⟩
  · obtain ⟨X, rfl⟩ : ∃ X : Nat, x = (X : Int) := ⟨x.toNat, by omega⟩
    have hX : X < 9223372036854775808 := by omega
    have h9 := Vi.len_nine hX
    go_wp2_with fail
    go_loopw [0, 3] (fun x' n' wr => ∃ m Y : Nat, x' = .int .i64 (Y : Int) ∧ n' = .int .i64 (m : Int) ∧ 1 ≤ m ∧ m ≤ Vi.len X ∧ Y = X / 128 ^ (m - 1) ∧ w = wr) (fun x' _ _ => (intOf x').toNat)
    case atStart => exact ⟨1, X, rfl, rfl, by omega, Vi.len_pos X, by simp, rfl⟩
    case round =>
      obtain ⟨m, Y, rfl, rfl, h1, h2, hY, rfl⟩ := hrel
      by_cases hge : 128 ≤ Y
      · have q1 : (128 : Int) ≤ (Y : Int) := by omega
        obtain ⟨s1, s2⟩ := Vi.len_step X m h1 (by rw [← hY]; exact hge)
        have hYX : Y ≤ X := by rw [hY]; exact Nat.div_le_self _ _
        have hYb : Y ≤ 9223372036854775807 := by omega
        have S1 := Lib.hid s1; have S2 := Lib.hid (show Y / 128 = X / 128 ^ (m + 1 - 1) by rw [hY]; exact s2)
        clear s1 s2 hY hYX
        go_wp2_with fail
        exact ⟨⟨m + 1, Y / 128, by congr 1, by congr 1, by omega, S1.out, S2.out, trivial⟩, by simp [intOf]; omega⟩
      · have q1 : ¬ (128 : Int) ≤ (Y : Int) := by omega
        have hd := Vi.len_done X m h1 h2 (by rw [← hY]; exact hge)
        have Hd := Lib.hid hd
        clear hd hY
        go_wp2_with fail
        go_ret
        exact ⟨by rw [← show m = _ from Hd.out]; rfl, rfl⟩
theorem sizeU8 : (Try.prog.info? 5).map (fun x => x.size) = some 1 := by kernel_rfl
theorem rd_src {w : World} {B : Nat} {A : Option Addr} {vs : List Value} (h : Rd w B A vs) {d : Option Addr} :
    0 < vs.length → d = d ∧ ∃ ad, A = some ad ∧ ∀ (j : Nat) (v : Value), vs[j]? = some v → w.cell? (ad.add j) = some v := fun h0 => by
  obtain ⟨b, off, e, _, _⟩ := h.at_ h0
  exact ⟨rfl, _, e, fun j v hv => rd_news h _ e j v hv⟩
theorem nat_min_l (a b c : Nat) (h1 : a = b) (h2 : b ≤ c) : a = Nat.min b c := by
  rw [h1]; exact (Nat.min_eq_left h2).symm
set_option maxHeartbeats 1000000 in
theorem grown_calls (A : Option Addr) (n cap more B : Nat) (bs : List (BitVec 8)) (w : World) (hn : n = bs.length) (hm : n + more ≤ 140737488355328) (hB : B ≤ w.heap.size) (hr : Rd w B A (bs.map V8)) :
    Calls Try.prog 37 #[.slice A n cap, .int .i64 (more : Int)] w fun e w' => ∃ A' cap', e = .returned (.slice A' n cap') ∧ w'.ownsRow w.heap.size 5 1 (.slice A' n cap') n (bs.map V8) ∧ Below w.heap.size w w' := by
  obtain ⟨C, hC⟩ : ∃ C, C = n + more := ⟨_, rfl⟩
  have hs : (n : Int) + (more : Int) = (C : Int) := by omega
  have hmk := make_u8 n C (by omega) (by omega)
  have hZ := zeros8_size C
  obtain ⟨Z, hZZ⟩ : ∃ Z, Z = (zeros8 C).toList := ⟨_, rfl⟩
  have hZl : Z.length = C := by rw [hZZ]; simpa using hZ
  have hal : Below w.heap.size w (w.alloc (.cells (zeros8 C) 5)) := (Below.refl _ _).alloc (Nat.le_refl _) _
  have hg : (w.alloc (.cells (zeros8 C) 5)).heap[w.heap.size]? = some (.cells Z.toArray 5 (0, 0)) := by rw [hZZ]; exact heap_alloc_new _ _
  have Hr1 := Lib.hid (hr.below hal hB)
  have Hn := Lib.hid hn; have Hal := Lib.hid hal; have Hg := Lib.hid hg; have HZ := Lib.hid hZl; have HC := Lib.hid hC
  have hnC : n ≤ C := by omega
  clear hn hr hal hg hZl hZ hZZ hC
  go_enter Try.func37, Try.ntmps37
  go_wp2_with (with_reducible (refine wpList_copy_splice (o := ⟨some 15, _, _, _, _, _⟩) rfl (.tmp 13) (.tmp 14) 22 22 rfl 5 descU8s sizeU8 (some ⟨w.heap.size, 0, none⟩) A n C n cap (by simp [Act.eval, Act.put]) (by simp [Act.eval, Act.put]) w.heap.size 0 Z 5 Hg.out (bs.map V8) (nat_min_l _ _ _ (by rw [List.length_map]; exact Hn.out.symm) (Nat.le_refl _)) (rd_src Hr1.out) (by rw [List.length_map, HZ.out, ← Hn.out]; omega) (v8_one _) w.heap.size w Hal.out (Nat.le_refl _) ?_); intro w2 hg2 hb2)
  have Hb2 := Lib.hid hb2
  clear hb2
  go_wp2_with fail
  go_ret
  have hl : (bs.map V8).length = n := by rw [List.length_map]; exact Hn.out.symm
  refine ⟨_, _, rfl, ⟨by omega, Or.inr ⟨w.heap.size, C, _, rfl, Nat.le_refl _, hg2.out, hnC, by unfold maxLen; have := HC.out; omega, ?_, ?_⟩⟩, Hb2.out⟩
  · have := length_splice Z 0 (bs.map V8) (by rw [hl, HZ.out]; omega)
    rw [HZ.out] at this
    simp [this]
  · simp only [splice, List.take_zero, List.nil_append, Nat.zero_add, Nat.mul_one]
    exact List.take_left' hl
end Go.Proofs.Ytkohakogknodeaa
