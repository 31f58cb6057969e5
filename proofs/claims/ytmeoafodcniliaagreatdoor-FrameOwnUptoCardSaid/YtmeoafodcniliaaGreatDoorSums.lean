/- crc.Sum and crc.Update by the document's own words -/
import Derived.Test.YtmeoafodcniliaaGreatDoorUpd
import Derived.Test.YtmeoafodcniliaaGreatDoorRefU
import Derived.Test.YtmeoafodcniliaaGreatDoorHelp
import Derived.Lib.SlBytesConst
namespace Go.Proofs.YtmeoafodcniliaaGreatDoor
open Go.RowKit
set_option linter.unusedSimpArgs false
set_option linter.unusedVariables false

theorem sum_calls (A : Option Addr) (n cap B : Nat) (bs : List (BitVec 8)) (w : World) (ht : TabIn w) (hn : n = bs.length) (hm : n ≤ maxLen) (hr : Rd w B A (bs.map V8)) :
    Calls Tryz.prog 174 #[.slice A n cap] w fun e w' => e = .returned (.int .u32 (n32 (~~~ Crc.runT (~~~ 0) bs))) ∧ w = w' := by
  have h0 : Calls Tryz.prog 239 #[.int .u32 0, .slice A n cap] w fun e w' => e = .returned (.int .u32 (n32 (~~~ Crc.runT (~~~ 0) bs))) ∧ w = w' :=
    update_calls 0 A n cap B bs w ht hn hm hr
  clear ht hr
  have Hn := Lib.hid hn; clear hn
  go_enter Tryz.func174, Tryz.ntmps174
  go_wp2_with (go_at_call 239; refine h0.mono ?_; rintro e w' ⟨rfl, rfl⟩)
  go_ret
  exact ⟨rfl, rfl⟩

theorem TabIn.below {w w' : World} (h : TabIn w) (hb : Below w.heap.size w w') : TabIn w' := fun i hi => by
  have h1 := h i hi
  have h0 : 1 < w.heap.size := by
    rcases (by omega : w.heap.size ≤ 1 ∨ 1 < w.heap.size) with h2 | h2
    · rw [World.cell?] at h1
      have : w.heap[1]? = none := Array.getElem?_eq_none (by omega)
      simp [this] at h1
    · exact h2
  exact (hb.cell (p := ⟨1, i, none⟩) h0).trans h1

/-- Every Update; the number may be spelled in any way. -/
theorem upd_calls (c : BitVec 32) (ci : Int) (hc : ci = (n32 c : Int)) (A : Option Addr) (n cap B : Nat) (bs : List (BitVec 8)) (w : World) (ht : TabIn w) (hn : n = bs.length) (hm : n ≤ maxLen) (hr : Rd w B A (bs.map V8)) :
    Calls Tryz.prog 239 #[.int .u32 ci, .slice A n cap] w fun e w' => e = .returned (.int .u32 (n32 (Crc.update c bs))) ∧ w = w' := by
  subst hc; rw [← Crc.update_eq]; exact update_calls c A n cap B bs w ht hn hm hr
theorem csum_calls (A : Option Addr) (n cap B : Nat) (bs : List (BitVec 8)) (w : World) (ht : TabIn w) (hn : n = bs.length) (hm : n ≤ maxLen) (hr : Rd w B A (bs.map V8)) :
    Calls Tryz.prog 174 #[.slice A n cap] w fun e w' => e = .returned (.int .u32 (n32 (Crc.sum bs))) ∧ w = w' := by
  have := sum_calls A n cap B bs w ht hn hm hr
  rw [Crc.update_eq] at this; exact this
/-- A row that was just laid, marked or not, reads as its cells. -/
theorem rd_mark (w : World) (g : Nat) (C : Array Value) (t : TypeId) (fr : Nat × Nat) (vs : List Value) (hg : g = w.heap.size) (h : C.toList = vs) : Rd (w.alloc (.cells C t fr)) (g + 1) (some ⟨g, 0, none⟩) vs := by
  subst hg
  intro k v hv
  refine ⟨w.heap.size, 0, rfl, by omega, ?_⟩
  rw [Nat.zero_add, World.cell?_alloc_mark, ← hv, ← h]; simp

theorem conv_mark (w : World) (g : Nat) (hg : g = w.heap.size) (C : Array Value) (n c : Nat) : (convert 22 22 (.slice (some ⟨g, 0, none⟩) n c)).run Tryz.prog (w.alloc (.cells C 5)) =
    .ok (.slice (some ⟨g, 0, none⟩) n c) (w.alloc (.cells C 5 (C.size, C.size + 1))) := by
  subst hg; exact Lib.run_convert_bytes_const (P := Tryz.prog) w 22 5 C n c descU8s descU8
end Go.Proofs.YtmeoafodcniliaaGreatDoor
