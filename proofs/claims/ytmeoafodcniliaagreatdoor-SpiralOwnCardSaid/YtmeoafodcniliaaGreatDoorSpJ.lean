/- slices.SortStableFunc of fewer than 20 ints -/
import Derived.Test.YtmeoafodcniliaaGreatDoorSpI
namespace Go.Proofs.YtmeoafodcniliaaGreatDoor.C24
open Go.RowKit
set_option linter.unusedSimpArgs false
set_option linter.unusedVariables false
/-- What is asked of the closure. -/
def Reads (g : Nat) (X : List Int) (c : Int → Int → Int) (cb : Array Value) (w : World) : Prop :=
  ∀ w' x y, Upd g w w' → x ∈ X → y ∈ X → ∀ m, Calls Tryz.prog 98 (#[.int .i64 x, .int .i64 y] ++ cb) (w'.drewN m) fun e w'' => e = .returned (.int .i64 (c x y)) ∧ ∃ q, w'' = (w'.drewN m).drewN q
set_option maxHeartbeats 2000000 in
theorem stable_small (g n cap base : Nat) (X : List Int) (c : Int → Int → Int) (cb : Array Value) (w : World) (hX : X.length = n) (hn : n < 20)
    (hown : w.ownsRow base 3 1 (.slice (some ⟨g, 0, none⟩) n cap) n (X.map VI)) (hc : Reads g X c cb w) :
    Calls Tryz.prog 184 #[.slice (some ⟨g, 0, none⟩) n cap, .int .i64 (n : Int), .func (.func 98) #[] cb] w fun e w' =>
      e = .returned (.tuple #[]) ∧ w'.ownsRow base 3 1 (.slice (some ⟨g, 0, none⟩) n cap) n ((Sp.insN (fun x y => decide (c x y < 0)) 0 (n - 1) 1 X).map VI) ∧ Upd g w w' := by
  have HI := Lib.hid (ins_calls g n cap base 0 n X c cb w hX (by omega) (Nat.le_refl _) (by omega) hown hc)
  clear hc hown hX
  have l1 : ¬ (20 : Int) ≤ (n : Int) := by omega
  have l2 : ¬ (20 : Int) < (n : Int) := by omega
  go_enter Tryz.func184, Tryz.ntmps184
  go_wp2_with fail
  go_loopw [7, 8] (fun x y wr => x = .int .i64 0 ∧ y = .int .i64 20 ∧ w = wr) (fun _ _ _ => 0)
  case atStart => exact ⟨rfl, rfl, rfl⟩
  case round =>
    obtain ⟨rfl, rfl, rfl⟩ := hrel
    go_wp2_with fail
    refine (HI.out).mono ?_
    rintro e w2 ⟨rfl, hown, hu⟩
    have Hown := Lib.hid hown; have Hu := Lib.hid hu
    clear hown hu HI
    go_wp2_with fail
    go_loopw [6] (fun x wr => x = .int .i64 20 ∧ w2 = wr) (fun _ _ => 0)
    case atStart => exact ⟨rfl, rfl⟩
    case round =>
      obtain ⟨rfl, rfl⟩ := hrel
      go_wp2_with fail
      go_end0
      exact ⟨rfl, Hown.out, Hu.out⟩
set_option maxHeartbeats 2000000 in
theorem sortStable_small (g n cap base : Nat) (X : List Int) (c : Int → Int → Int) (cb : Array Value) (w : World) (hX : X.length = n) (hn : n < 20)
    (hown : w.ownsRow base 3 1 (.slice (some ⟨g, 0, none⟩) n cap) n (X.map VI)) (hc : Reads g X c cb w) :
    Calls Tryz.prog 97 #[.slice (some ⟨g, 0, none⟩) n cap, .func (.func 98) #[] cb] w fun e w' =>
      e = .returned (.tuple #[]) ∧ w'.ownsRow base 3 1 (.slice (some ⟨g, 0, none⟩) n cap) n ((Sp.insN (fun x y => decide (c x y < 0)) 0 (n - 1) 1 X).map VI) ∧ Upd g w w' := by
  have HI := Lib.hid (stable_small g n cap base X c cb w hX hn hown hc)
  clear hc hown hX
  go_enter Tryz.func97, Tryz.ntmps97
  go_wp2_with fail
  refine (HI.out).mono ?_
  rintro e w2 ⟨rfl, hown, hu⟩
  have Hown := Lib.hid hown; have Hu := Lib.hid hu
  clear hown hu HI
  go_wp2_with fail
  go_end0
  exact ⟨rfl, Hown.out, Hu.out⟩
end Go.Proofs.YtmeoafodcniliaaGreatDoor.C24
