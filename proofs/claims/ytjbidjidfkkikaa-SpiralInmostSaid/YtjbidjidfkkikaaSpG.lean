/- spiral.Side, pithkept.SameComplexes -/
import Derived.Test.YtjbidjidfkkikaaSpF
namespace Go.Proofs.Ytjbidjidfkkikaa
open Go.RowKit
set_option linter.unusedSimpArgs false
set_option linter.unusedVariables false
/-- Numbers that are themselves. -/
def Own1 (z : Nat × Nat) : Prop := FloatKind.f64.format.order z.1 z.1 = some .eq ∧ FloatKind.f64.format.order z.2 z.2 = some .eq
set_option maxHeartbeats 1000000 in
theorem sameC_calls (A A' : Option Addr) (n cap cap' B B' : Nat) (zs : List (Nat × Nat)) (w : World) (hn : n = zs.length) (hm : n ≤ 9223372036854775807) (hz : ∀ z ∈ zs, Own1 z) (hr : Rd w B A (zs.map VC)) (hr' : Rd w B' A' (zs.map VC)) :
    Calls Try.prog 33 #[.slice A n cap, .slice A' n cap'] w fun e w' => e = .returned (.bool true) ∧ ∃ k, w' = w.drewN k := by
  have Hn := Lib.hid hn; have Hr := Lib.hid hr; have Hr' := Lib.hid hr'; have Hz := Lib.hid hz
  clear hn hr hr' hz
  go_enter Try.func33, Try.ntmps33
  have hnn : ((n : Int) != (n : Int)) = false := by simp
  go_wp2_with fail
  go_loopw [5] (fun i wr => ∃ a : Nat, i = .int .i64 (a : Int) ∧ a ≤ n ∧ ∃ k, wr = w.drewN k) (fun i _ => n - (intOf i).toNat)
  case atStart => exact ⟨0, rfl, by omega, 0, rfl⟩
  case round =>
    obtain ⟨a, rfl, ha, hd⟩ := hrel
    have Hd := Lib.hid hd; clear hd
    by_cases hlt : a < n
    · have q1 : (a : Int) < (n : Int) := by omega
      obtain ⟨z, hz⟩ : ∃ z, zs[a]? = some z := ⟨zs[a]'(by rw [← Hn.out]; omega), List.getElem?_eq_getElem _⟩
      obtain ⟨b, off, rfl, hb, hc1⟩ := rd_getc (w := wr) (by obtain ⟨d, rfl⟩ := Hd.out; exact Hr.out) hz
      obtain ⟨b', off', rfl, hb', hc1'⟩ := rd_getc (w := wr) (by obtain ⟨d, rfl⟩ := Hd.out; exact Hr'.out) hz
      obtain ⟨o1, o2⟩ := Hz.out z (List.mem_of_getElem? hz)
      have Hd2 := Lib.hid (fun m => show ∃ k, wr.drewN m = w.drewN k by obtain ⟨d, rfl⟩ := Hd.out; exact ⟨_, World.drewN_drewN _ _ _⟩)
      clear hz
      go_wp2_with fail
      go_big_quiet (fail)
      go_wp2_with fail
      exact ⟨⟨a + 1, by congr 1, by omega, Hd2.out _⟩, by simp [intOf]; omega⟩
    · have q1 : ¬ (a : Int) < (n : Int) := by omega
      go_wp2_with fail
      go_ret
      exact ⟨rfl, Hd.out⟩
/-- The side of the least square. -/
def Sp.side (n : Nat) : Nat := let r := if Sp.isq n * Sp.isq n < n then Sp.isq n + 1 else Sp.isq n; r + 1 - r % 2
set_option maxHeartbeats 1000000 in
theorem Side_calls (n : Nat) (h1 : 1 ≤ n) (hn : n ≤ 9223372036854775807) (w : World) : Calls Try.prog 31 #[.int .i64 (n : Int)] w fun e w' => e = .returned (.int .i64 (Sp.side n : Nat)) ∧ w = w' := by
  have h0 : ¬ (n : Int) ≤ 0 := by omega
  obtain ⟨s1, s2⟩ := Sp.isq_spec n
  obtain ⟨r, hr⟩ : ∃ r, r = Sp.isq n := ⟨_, rfl⟩
  have hrb : r ≤ 3037000499 := by
    rcases Nat.lt_or_ge r 3037000500 with h | h
    · omega
    · rw [← hr] at s1; have := Nat.mul_le_mul h h; omega
  have Hs := Lib.hid (show Sp.side n = (if r * r < n then r + 1 else r) + 1 - (if r * r < n then r + 1 else r) % 2 by unfold Sp.side; rw [hr])
  have Hroot := Lib.hid (root_calls n hn)
  rw [← hr] at Hroot s1 s2
  clear hr
  obtain ⟨q, hq, hq2⟩ : ∃ q : Nat, (r : Int) * (r : Int) = (q : Int) ∧ r * r = q := ⟨r * r, by push_cast; rfl, rfl⟩
  rw [hq2] at s1 Hs
  have hqb : q ≤ 9223372036854775807 := by omega
  clear hq2 s2
  go_enter Try.func31, Try.ntmps31
  go_wp2_with fail
  refine (Hroot.out w).mono ?_
  rintro e w' ⟨rfl, rfl⟩
  by_cases hlt : (q : Int) < (n : Int)
  · have Hf : Hid (((Sp.side n : Nat) : Int) = (r : Int) + 1 + 1 - ((r : Int) + 1) % 2) := Lib.hid (by rw [Hs.out, if_pos (by omega)]; omega)
    go_wp2_with fail
    go_ret
    exact ⟨by rw [Hf.out]; rfl, rfl⟩
  · have Hf : Hid (((Sp.side n : Nat) : Int) = (r : Int) + 1 - (r : Int) % 2) := Lib.hid (by rw [Hs.out, if_neg (by omega)]; omega)
    go_wp2_with fail
    go_ret
    exact ⟨by rw [Hf.out]; rfl, rfl⟩
end Go.Proofs.Ytjbidjidfkkikaa
