/- Calls of a script, and what a broken reader answers -/
import Derived.Test.YtkohakogknodeaaLawBelow
namespace Go.Proofs.Ytkohakogknodeaa
open Go.RowKit
set_option linter.unusedSimpArgs false
set_option linter.unusedVariables false
abbrev OpA := List (Int × Int × Int × Bool)
/-- A slice of Ops as it reads. -/
def OpRd (w : World) (B : Nat) (A : Option Addr) (os : OpA) : Prop :=
  ∀ (i : Nat) (q : Int × Int × Int × Bool), os[i]? = some q → ∃ blk off, A = some ⟨blk, off, none⟩ ∧ blk < B ∧ w.cell? ⟨blk, off + i * 4, none⟩ = some (.int .i64 q.1) ∧ w.cell? ⟨blk, off + i * 4 + 1, none⟩ = some (.int .i64 q.2.1) ∧
    w.cell? ⟨blk, off + i * 4 + 2, none⟩ = some (.int .i64 q.2.2.1) ∧ w.cell? ⟨blk, off + i * 4 + 3, none⟩ = some (.bool q.2.2.2) ∧ q.2.1 ≤ 9223372036854775807 ∧ -9223372036854775808 ≤ q.2.2.1 ∧ q.2.2.1 ≤ 9223372036854775807
theorem OpRd.below {w w' : World} {B C : Nat} {A : Option Addr} {os : OpA} (h : OpRd w B A os) (hb : Below C w w') (hB : B ≤ C) : OpRd w' B A os := by
  intro i q hi
  obtain ⟨blk, off, e, h1, c0, c1, c2, c3, h2⟩ := h i q hi
  have hk : ∀ o, w'.cell? ⟨blk, o, none⟩ = w.cell? ⟨blk, o, none⟩ := fun o => hb.cell (p := ⟨blk, o, none⟩) (Nat.lt_of_lt_of_le h1 hB)
  exact ⟨blk, off, e, h1, (hk _).trans c0, (hk _).trans c1, (hk _).trans c2, (hk _).trans c3, h2⟩
def InO (w : World) (A : Option Addr) (n cap : Nat) (os : OpA) : Prop := n = os.length ∧ n ≤ cap ∧ cap ≤ maxLen ∧ (A = none → n = 0 ∧ cap = 0) ∧ OpRd w w.heap.size A os
set_option maxHeartbeats 1000000 in
theorem list_broken (g : Nat) (A : Option Addr) (n cap at' base : Nat) (bs : List (BitVec 8)) (er f bel : Int) (w : World) (hr : RdrIs 68 w base g A n cap bs at' er) (he : er ≠ 0) :
    Calls Try.prog 35 #[.pointer (some ⟨g, 0, none⟩), .int .i64 f, .int .i64 bel] w fun e w' => e = .returned (.slice none 0 0) ∧ w = w' := by
  have c2 : w.cell? ⟨g, 2, none⟩ = some (.int .i64 er) := by rw [cell_heap hr.1]; rfl
  have hb : (er != 0) = true := by rw [bne_iff_ne]; exact he
  clear hr he
  go_enter Try.func35, Try.ntmps35
  go_wp2_with fail
  go_ret
  exact ⟨rfl, rfl⟩
set_option maxHeartbeats 1000000 in
theorem int_broken (g : Nat) (A : Option Addr) (n cap at' base : Nat) (bs : List (BitVec 8)) (er : Int) (w : World) (hr : RdrIs 68 w base g A n cap bs at' er) (he : er ≠ 0) :
    Calls Try.prog 34 #[.pointer (some ⟨g, 0, none⟩)] w fun e w' => e = .returned (.int .i64 0) ∧ w = w' := by
  have c2 : w.cell? ⟨g, 2, none⟩ = some (.int .i64 er) := by rw [cell_heap hr.1]; rfl
  have hb : (er != 0) = true := by rw [bne_iff_ne]; exact he
  clear hr he
  go_enter Try.func34, Try.ntmps34
  go_wp2_with fail
  go_ret
  exact ⟨rfl, rfl⟩
theorem quiet_list (g : Nat) (A : Option Addr) (n cap at' base m : Nat) (bs : List (BitVec 8)) (er f bel : Int) (w : World) (hr : RdrIs 68 w base g A n cap bs at' er) (he : er ≠ 0) :
    Calls Try.prog 35 #[.pointer (some ⟨g, 0, none⟩), .int .i64 f, .int .i64 bel] (w.drewN m) fun e w' => e = .returned (.slice none 0 0) ∧ ∃ k, w' = w.drewN k :=
  (list_broken g A n cap at' base bs er f bel (w.drewN m) (RdrIs.below hr (below_drewN (Below.refl _ _) m)) he).mono fun _ _ ⟨he, hw⟩ => ⟨he, m, hw.symm⟩
end Go.Proofs.Ytkohakogknodeaa
