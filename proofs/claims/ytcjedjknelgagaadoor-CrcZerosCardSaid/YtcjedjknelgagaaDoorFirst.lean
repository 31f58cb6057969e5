/- crc's functions by the document's own words; pithlaw2.first -/
import Derived.Test.YtcjedjknelgagaaDoorStill
import Derived.Test.YtcjedjknelgagaaDoorRef2
import Derived.Lib.SlBytesConst
namespace Go.Proofs.YtcjedjknelgagaaDoor
open Go.RowKit
set_option linter.unusedSimpArgs false
set_option linter.unusedVariables false

theorem TabIn.below {w w' : World} (h : TabIn w) (hb : Below w.heap.size w w') : TabIn w' := fun i hi => by
  have h1 := h i hi
  have h0 : 0 < w.heap.size := by
    rcases Nat.eq_zero_or_pos w.heap.size with h2 | h2
    · rw [World.cell?] at h1
      have : w.heap[0]? = none := Array.getElem?_eq_none (by omega)
      simp [this] at h1
    · exact h2
  exact (hb.cell (p := ⟨0, i, none⟩) h0).trans h1

/-- Every Update; the number may be spelled in any way. -/
theorem upd_calls (c : BitVec 32) (ci : Int) (hc : ci = (n32 c : Int)) (A : Option Addr) (n cap B : Nat) (bs : List (BitVec 8)) (w : World) (ht : TabIn w) (hn : n = bs.length) (hm : n ≤ maxLen) (hr : Rd w B A (bs.map V8)) :
    Calls Tryd.prog 20 #[.int .u32 ci, .slice A n cap] w fun e w' => e = .returned (.int .u32 (n32 (Crc.update c bs))) ∧ w = w' := by
  subst hc; rw [← Crc.update_eq]; exact update_calls c A n cap B bs w ht hn hm hr
theorem csum_calls (A : Option Addr) (n cap B : Nat) (bs : List (BitVec 8)) (w : World) (ht : TabIn w) (hn : n = bs.length) (hm : n ≤ maxLen) (hr : Rd w B A (bs.map V8)) :
    Calls Tryd.prog 16 #[.slice A n cap] w fun e w' => e = .returned (.int .u32 (n32 (Crc.sum bs))) ∧ w = w' := by
  have := sum_calls A n cap B bs w ht hn hm hr
  rw [Crc.update_eq] at this; exact this
theorem joi_calls (a b : BitVec 32) (ai bi n : Int) (ha : ai = (n32 a : Int)) (hb : bi = (n32 b : Int)) (w : World) (hn : -9223372036854775808 ≤ n ∧ n ≤ 9223372036854775807) :
    Calls Tryd.prog 22 #[.int .u32 ai, .int .u32 bi, .int .i64 n] w fun e w' => e = .returned (.int .u32 (n32 (Crc.join a b n))) ∧ Below w.heap.size w w' := by
  subst ha hb; exact join_calls a b n w hn

/-- A row that was just laid, marked or not, reads as its cells. -/
theorem rd_mark (w : World) (g : Nat) (C : Array Value) (t : TypeId) (fr : Nat × Nat) (vs : List Value) (hg : g = w.heap.size) (h : C.toList = vs) : Rd (w.alloc (.cells C t fr)) (g + 1) (some ⟨g, 0, none⟩) vs := by
  subst hg
  intro k v hv
  refine ⟨w.heap.size, 0, rfl, by omega, ?_⟩
  rw [Nat.zero_add, World.cell?_alloc_mark, ← hv, ← h]; simp

theorem conv_mark (w : World) (g : Nat) (hg : g = w.heap.size) (C : Array Value) (n c : Nat) : (convert 22 22 (.slice (some ⟨g, 0, none⟩) n c)).run Tryd.prog (w.alloc (.cells C 5)) =
    .ok (.slice (some ⟨g, 0, none⟩) n c) (w.alloc (.cells C 5 (C.size, C.size + 1))) := by
  subst hg; exact Lib.run_convert_bytes_const (P := Tryd.prog) w 22 5 C n c descU8s descU8
def nine : List (BitVec 8) := [49#8, 50#8, 51#8, 52#8, 53#8, 54#8, 55#8, 56#8, 57#8]
def core5 : List (BitVec 8) := [32#8, 99#8, 111#8, 114#8, 101#8]
theorem k1 : ((n32 (Crc.sum nine) : Int) == 4236843288) = true := by decide +kernel
theorem k2 : ((n32 (Crc.update 134966243#32 core5) : Int) == 3300233683) = true := by decide +kernel
theorem k3 : ((n32 (Crc.join 134966243#32 3436265729#32 5) : Int) == 3300233683) = true := by decide +kernel
theorem k4 : ((n32 (Crc.join 1#32 2#32 1) : Int) == 258) = true := by decide +kernel
theorem lit1 : (134966243 : Int) = (n32 134966243#32 : Int) := by decide +kernel
theorem lit2 : (3436265729 : Int) = (n32 3436265729#32 : Int) := by decide +kernel
theorem lit3 : (1 : Int) = (n32 1#32 : Int) := by decide +kernel
theorem lit4 : (2 : Int) = (n32 2#32 : Int) := by decide +kernel

set_option maxHeartbeats 400000 in
theorem first_calls (w : World) (ht : TabIn w) : Calls Tryd.prog 14 #[] w fun e w' => e = .returned (.bool true) ∧ Below w.heap.size w w' := by
  have kc := conv_mark
  have Ht := Lib.hid ht; clear ht
  have h1 := k1; have h2 := k2; have h3 := k3; have h4 := k4
  go_enter Tryd.func14, Tryd.ntmps14
  go_wp2_with fail
  refine (csum_calls _ 9 _ _ nine _ (Ht.out.below ((Below.refl _ _).alloc (Nat.le_refl _) _)) rfl (by decide) (rd_mark _ _ _ _ _ _ rfl rfl)).mono ?_
  rintro e w' ⟨rfl, rfl⟩
  go_wp2_with fail
  refine (upd_calls 134966243#32 _ lit1 _ 5 _ _ core5 _ (Ht.out.below (((Below.refl _ _).alloc (Nat.le_refl _) _).alloc (by simp) _)) rfl (by decide) (rd_mark _ _ _ _ _ _ (by simp) rfl)).mono ?_
  rintro e w' ⟨rfl, rfl⟩
  go_wp2_with fail
  refine (joi_calls 134966243#32 3436265729#32 _ _ 5 lit1 lit2 _ (by omega)).mono ?_
  rintro e w1 ⟨rfl, hb1⟩
  have hs1 : w.heap.size + 2 ≤ w1.heap.size := by have := hb1.size; simp at this; omega
  have Hb1 := Lib.hid ((((Below.refl _ _).alloc (Nat.le_refl _) _).alloc (by simp) _).trans (hb1.mono (B' := w.heap.size) (by simp; omega)))
  clear hb1
  go_wp2_with fail
  refine (joi_calls 1#32 2#32 _ _ 1 lit3 lit4 _ (by omega)).mono ?_
  rintro e w2 ⟨rfl, hb2⟩
  have Hb2 := Lib.hid (Hb1.out.trans (hb2.mono (by omega)))
  clear hb2
  go_wp2_with fail
  go_ret
  exact ⟨rfl, Hb2.out⟩
end Go.Proofs.YtcjedjknelgagaaDoor
