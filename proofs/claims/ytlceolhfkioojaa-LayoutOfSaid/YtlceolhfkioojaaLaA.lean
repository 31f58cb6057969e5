/- Layouts in memory: N, Shards, Range, the closure of Shard -/
import Derived.Test.YtlceolhfkioojaaInts
import Derived.Test.YtlceolhfkioojaaLaM2
namespace Go.Proofs.Ytlceolhfkioojaa
open Go.RowKit
set_option linter.unusedSimpArgs false
set_option linter.unusedVariables false
/-- A layout: its cuts in memory of its own. -/
def LayIs (w : World) (base g : Nat) (A : Option Addr) (n cap : Nat) (zs : List Int) : Prop :=
  w.heap[g]? = some (.cells #[.slice A n cap] 52 (0, 0)) ∧ w.ownsRow base 3 1 (.slice A n cap) n (zs.map VI) ∧ n = zs.length ∧ base ≤ g
theorem LayIs.below {w w' : World} {base g n cap : Nat} {A : Option Addr} {zs : List Int} (h : LayIs w base g A n cap zs) (hb : Below w.heap.size w w') : LayIs w' base g A n cap zs :=
  ⟨(hb.block g (lt_heap h.1)).trans h.1, own_below h.2.1 hb (Nat.le_refl _), h.2.2⟩
theorem own_cap {w : World} {base : Nat} {t : TypeId} {A : Option Addr} {n cap : Nat} {xs : List Value} (h : w.ownsRow base t 1 (.slice A n cap) n xs) : n ≤ cap ∧ cap ≤ maxLen := by
  obtain ⟨_, _, e, h1, h2, _⟩ := own_form h
  injection e with _ _ e; subst e; exact ⟨h1, h2⟩
theorem LayIs.cell {w : World} {base g n cap : Nat} {A : Option Addr} {zs : List Int} (h : LayIs w base g A n cap zs) : w.cell? ⟨g, 0, none⟩ = some (.slice A n cap) := by rw [cell_heap h.1]; rfl
theorem getD_some {zs : List Int} {i : Nat} (h : i < zs.length) : zs[i]? = some (zs.getD i 0) := by simp [List.getD, List.getElem?_eq_getElem h]
set_option maxHeartbeats 1000000 in
theorem N_calls (g : Nat) (A : Option Addr) (n cap base : Nat) (zs : List Int) (w : World) (h : LayIs w base g A n cap zs) :
    Calls Try.prog 23 #[.pointer (some ⟨g, 0, none⟩)] w fun e w' => e = .returned (.int .i64 (La.lastI 0 zs)) ∧ ∃ k, w' = w.drewN k := by
  have c0 := h.cell
  have Hn := Lib.hid h.2.2.1
  obtain ⟨p1, p2⟩ := own_cap h.2.1
  unfold maxLen at p2
  by_cases h0 : n = 0
  · subst h0
    have hz : zs = [] := List.eq_nil_of_length_eq_zero Hn.out.symm
    subst hz
    clear h
    go_enter Try.func23, Try.ntmps23
    go_wp2_with fail
    go_ret
    exact ⟨rfl, 0, rfl⟩
  · have hne : zs ≠ [] := by intro e; subst e; exact h0 Hn.out
    have Hl := Lib.hid (La.lastI_get zs 0 hne)
    obtain ⟨b, off, rfl, _, hc⟩ := rd_get (own_rd h.2.1) (getD_some (zs := zs) (i := zs.length - 1) (by rw [← Hn.out]; omega))
    rw [← Hl.out, ← Hn.out] at hc
    have e0 : ((n : Int) == 0) = false := by rw [beq_eq_false_iff_ne]; omega
    have e1 : (n : Int) - 1 = ((n - 1 : Nat) : Int) := by omega
    have e2 : wrap64 ((n : Int) - 1) = ((n - 1 : Nat) : Int) := by rw [IntWalk.wrap64_in _ (by omega)]; omega
    have e3 : ((n - 1 : Nat) : Int) < (n : Int) := by omega
    generalize La.lastI 0 zs = z at *
    clear h hne h0
    go_enter Try.func23, Try.ntmps23
    go_wp2_with fail
    go_quiet (fail)
    go_wp2_with fail
    go_ret
    exact ⟨rfl, nq, rfl⟩
set_option maxHeartbeats 1000000 in
theorem Shards_calls (g : Nat) (A : Option Addr) (n cap base : Nat) (zs : List Int) (w : World) (h : LayIs w base g A n cap zs) :
    Calls Try.prog 22 #[.pointer (some ⟨g, 0, none⟩)] w fun e w' => e = .returned (.int .i64 (n : Int)) ∧ w = w' := by
  have c0 := h.cell
  clear h
  go_enter Try.func22, Try.ntmps22
  go_wp2_with fail
  go_ret
  exact ⟨rfl, rfl⟩
set_option maxHeartbeats 2000000 in
theorem Range_calls (g : Nat) (A : Option Addr) (n cap base : Nat) (zs : List Int) (i : Int) (w : World) (h : LayIs w base g A n cap zs) (hi : i ≤ 9223372036854775807) :
    Calls Try.prog 24 #[.pointer (some ⟨g, 0, none⟩), .int .i64 i] w fun e w' => e = .returned (.tuple #[.int .i64 (La.rng zs i).1, .int .i64 (La.rng zs i).2]) ∧ ∃ k, w' = w.drewN k := by
  have c0 := h.cell
  have Hn := Lib.hid h.2.2.1
  obtain ⟨p1, p2⟩ := own_cap h.2.1
  unfold maxLen at p2
  by_cases hneg : i < 0
  · have He := Lib.hid (La.rng_out zs i (Or.inl hneg))
    clear h
    go_enter Try.func24, Try.ntmps24
    go_wp2_with fail
    go_ret2
    rw [He.out]
    exact ⟨rfl, 0, rfl⟩
  · by_cases hbig : (n : Int) ≤ i
    · have He := Lib.hid (La.rng_out zs i (Or.inr (by rw [← Hn.out]; exact hbig)))
      clear h
      go_enter Try.func24, Try.ntmps24
      go_wp2_with fail
      go_ret2
      rw [He.out]
      exact ⟨rfl, 0, rfl⟩
    · obtain ⟨k, rfl⟩ : ∃ k : Nat, i = (k : Int) := ⟨i.toNat, by omega⟩
      have He := Lib.hid (La.rng_in zs k (by rw [← Hn.out]; omega))
      have hkn : (k : Int) < (n : Int) := by omega
      obtain ⟨b, off, rfl, _, hc⟩ := rd_get (own_rd h.2.1) (getD_some (zs := zs) (i := k) (by rw [← Hn.out]; omega))
      by_cases hk0 : k = 0
      · subst hk0
        clear hneg hbig h
        have hn0 : (0 : Int) < (n : Int) := by omega
        have hcap : (0 : Int) < (cap : Int) := by omega
        have hc : w.cell? ⟨b, off, none⟩ = some (.int .i64 (zs.getD 0 0)) := by simpa using hc
        generalize zs.getD 0 0 = z at *
        go_enter Try.func24, Try.ntmps24
        go_wp2_with fail
        go_quiet (fail)
        go_wp2_with fail
        go_ret2
        rw [He.out, La.lo_zero]
        exact ⟨rfl, nq, rfl⟩
      · obtain ⟨j, hj⟩ : ∃ j, j = k - 1 := ⟨_, rfl⟩
        obtain ⟨b2, off2, e, _, hc2⟩ := rd_get (own_rd h.2.1) (getD_some (zs := zs) (i := j) (by rw [← Hn.out]; omega))
        injection e with e; injection e with e1 e2; subst e1; subst e2
        have x0 : ((k : Int) == 0) = false := by rw [beq_eq_false_iff_ne]; omega
        have x1 : (k : Int) - 1 = (j : Int) := by omega
        have x2 : wrap64 ((k : Int) - 1) = (j : Int) := by rw [IntWalk.wrap64_in _ (by omega)]; omega
        have x3 : (j : Int) < (n : Int) := by omega
        have x4 : ¬ (n : Int) ≤ (k : Int) := by omega
        have hlo : La.lo zs k = zs.getD j 0 := by rw [show k = j + 1 by omega]; exact La.lo_succ zs j
        rw [hlo] at He
        generalize zs.getD j 0 = z at *
        generalize zs.getD k 0 = z2 at *
        clear h hj hlo
        go_enter Try.func24, Try.ntmps24
        go_wp2_with fail
        go_quiet (fail)
        go_wp2_with fail
        go_ret2
        rw [He.out]
        exact ⟨rfl, nq, rfl⟩
end Go.Proofs.Ytlceolhfkioojaa
