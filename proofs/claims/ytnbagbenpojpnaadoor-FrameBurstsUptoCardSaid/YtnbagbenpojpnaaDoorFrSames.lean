/- SameFrames of the same frames -/
import Derived.Test.YtnbagbenpojpnaaDoorFrArgs
namespace Go.Proofs.YtnbagbenpojpnaaDoor
open Go.RowKit
set_option linter.unusedSimpArgs false
set_option linter.unusedVariables false
attribute [local go_sem ↓] loadF storeF
attribute [local go_sem] isLoadOf loadArg isRowAt_ptr rowAt_ptr blkOf_ptr aggOf_agg isAggV_agg isRow_alloc_new pair_cells
theorem c22_keep {W w' w'' : World} {B b1 o1 b2 o2 : Nat} {x1 y1 x2 y2 : Value} (h : ((w'.cell? ⟨b1, o1, none⟩ = some x1 ∧ w'.cell? ⟨b1, o1 + 1, none⟩ = some y1) ∧ w'.cell? ⟨b2, o2, none⟩ = some x2 ∧ w'.cell? ⟨b2, o2 + 1, none⟩ = some y2) ∧ (b1 < B ∧ b2 < B) ∧ Below B W w') (hb : Below B w' w'') :
    ((w''.cell? ⟨b1, o1, none⟩ = some x1 ∧ w''.cell? ⟨b1, o1 + 1, none⟩ = some y1) ∧ w''.cell? ⟨b2, o2, none⟩ = some x2 ∧ w''.cell? ⟨b2, o2 + 1, none⟩ = some y2) ∧ (b1 < B ∧ b2 < B) ∧ Below B W w'' :=
  ⟨⟨⟨(hb.cell (p := ⟨b1, o1, none⟩) h.2.1.1).trans h.1.1.1, (hb.cell (p := ⟨b1, o1 + 1, none⟩) h.2.1.1).trans h.1.1.2⟩, (hb.cell (p := ⟨b2, o2, none⟩) h.2.1.2).trans h.1.2.1, (hb.cell (p := ⟨b2, o2 + 1, none⟩) h.2.1.2).trans h.1.2.2⟩, h.2.1, h.2.2.trans hb⟩
set_option maxHeartbeats 2000000 in
theorem sames_calls (A A' : Option Addr) (n cap cap' B B' : Nat) (fs : FrA) (w : World) (hn : n = fs.length) (hm : n ≤ cap) (hm' : n ≤ cap') (hcm : cap ≤ maxLen) (hcm' : cap' ≤ maxLen) (hr : FrRd w B A fs) (hr' : FrRd w B' A' fs) (hB : B ≤ w.heap.size) (hB' : B' ≤ w.heap.size) :
    Calls Tryd.prog 25 #[.slice A n cap, .slice A' n cap'] w fun e w' => e = .returned (.bool true) ∧ Below w.heap.size w w' := by
  have Hn := Lib.hid hn; have Hr := Lib.hid hr; have Hr' := Lib.hid hr'
  unfold maxLen at hcm hcm'
  clear hn hr hr'
  go_enter Tryd.func25, Tryd.ntmps25
  go_wp2_with fail
  go_loopw [5] (fun i' wr => ∃ (a : Nat), i' = .int .i64 (a : Int) ∧ a ≤ n ∧ Below w.heap.size w wr) (fun i _ => n - (intOf i).toNat)
  case atStart => exact ⟨0, rfl, by omega, Below.refl _ _⟩
  case round =>
    obtain ⟨a, rfl, ha, hbl⟩ := hrel
    have Hbl := Lib.hid hbl
    have hsz := hbl.size
    clear hbl
    by_cases hlt : a < n
    · have q1 : (a : Int) < (n : Int) := by omega
      obtain ⟨⟨k, p⟩, hp⟩ : ∃ x, fs[a]? = some x := ⟨fs[a]'(by rw [← Hn.out]; omega), List.getElem?_eq_getElem _⟩
      have Hr2 := Lib.hid (Hr.out.below Hbl.out hB)
      have Hr2' := Lib.hid (Hr'.out.below Hbl.out hB')
      obtain ⟨blk, off, C1, cp1, rfl, h1, h2, h3, h4, h5, h6, h7⟩ := Hr2.out a k p hp
      obtain ⟨blk', off', C2, cp2, rfl, j1, j2, j3, j4, j5, j6, j7⟩ := Hr2'.out a k p hp
      have H4 := Lib.hid h4; have H7 := Lib.hid h7; have J4 := Lib.hid j4; have J7 := Lib.hid j7
      have b1 : blk < wr.heap.size := by omega
      have b2 : blk' < wr.heap.size := by omega
      have Hc := Lib.hid (show ((wr.cell? ⟨blk, off + a * 2, none⟩ = some (.int .i64 k) ∧ wr.cell? ⟨blk, off + a * 2 + 1, none⟩ = some (.slice C1 p.length cp1)) ∧ wr.cell? ⟨blk', off' + a * 2, none⟩ = some (.int .i64 k) ∧ wr.cell? ⟨blk', off' + a * 2 + 1, none⟩ = some (.slice C2 p.length cp2)) ∧ (blk < wr.heap.size ∧ blk' < wr.heap.size) ∧ Below wr.heap.size wr wr from ⟨⟨⟨h2, h3⟩, j2, j3⟩, ⟨b1, b2⟩, Below.refl _ _⟩)
      clear hp h4 h7 h6 j4 j7 j6 h2 h3 j2 j3
      obtain ⟨L, hL⟩ : ∃ L, L = p.length := ⟨_, rfl⟩
      rw [← hL] at h5 H4 j5 J4 Hc
      have HL := Lib.hid hL
      clear hL
      go_wp2_with fail
      have hst := Hc.out
      go_region_held3 (fun w' => ((w'.cell? ⟨blk, off + a * 2, none⟩ = some (.int .i64 k) ∧ w'.cell? ⟨blk, off + a * 2 + 1, none⟩ = some (.slice C1 L cp1)) ∧ w'.cell? ⟨blk', off' + a * 2, none⟩ = some (.int .i64 k) ∧ w'.cell? ⟨blk', off' + a * 2 + 1, none⟩ = some (.slice C2 L cp2)) ∧ (blk < wr.heap.size ∧ blk' < wr.heap.size) ∧ Below wr.heap.size wr w')
        ((rename (_ ∧ _) ∧ (_ ∧ _) ∧ Below _ _ _ => hS; first
          | exact hS
          | exact c22_keep hS (Below.refl _ _).drew
          | exact c22_keep hS (Below.mono (by assumption) hS.2.2.size)))
        ((go_at_call 20; rename (_ ∧ _) ∧ (_ ∧ _) ∧ Below _ _ _ => hS; refine (sameF_calls k k C1 C2 L cp1 L cp2 B B' p p _ HL.out HL.out (fun h => (H4.out h).1) (fun h => (J4.out h).1) (H7.out.below hS.2.2 (Nat.le_trans hB hsz)) (J7.out.below hS.2.2 (Nat.le_trans hB' hsz)) (Nat.le_trans (Nat.le_trans hB hsz) hS.2.2.size) (Nat.le_trans (Nat.le_trans hB' hsz) hS.2.2.size)).mono ?_; rintro e w' ⟨rfl, hb⟩))
      rename (_ ∧ _) ∧ (_ ∧ _) ∧ Below _ _ w' => hF
      have HF := Lib.hid (Hbl.out.trans (hF.2.2.mono hsz))
      clear hF hS hst hb
      go_wp2_with fail
      exact ⟨⟨a + 1, by congr 1, by omega, HF.out⟩, by simp [intOf]; omega⟩
    · go_wp2_with fail
      go_ret
      exact ⟨rfl, Hbl.out⟩
end Go.Proofs.YtnbagbenpojpnaaDoor
