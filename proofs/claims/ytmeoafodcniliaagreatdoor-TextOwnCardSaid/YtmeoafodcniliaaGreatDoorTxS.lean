/- memory that is kept; the scanner in memory; text.two -/
import Derived.Test.YtmeoafodcniliaaGreatDoorTxW
import Derived.Test.YtmeoafodcniliaaGreatDoorTxN
namespace Go.Proofs.YtmeoafodcniliaaGreatDoor.C4
open Go.RowKit
set_option linter.unusedSimpArgs false
set_option linter.unusedVariables false
/-- All blocks but these are as they were. -/
structure Keep (ks : List Nat) (w w' : World) : Prop where
  os : w'.os = w.os
  tape : w'.tape = w.tape
  output : w'.output = w.output
  size : w.heap.size ≤ w'.heap.size
  block : ∀ k, k < w.heap.size → k ∉ ks → w'.heap[k]? = w.heap[k]?
theorem Keep.refl (ks : List Nat) (w : World) : Keep ks w w := ⟨rfl, rfl, rfl, Nat.le_refl _, fun _ _ _ => rfl⟩
theorem Keep.trans {ks : List Nat} {a b c : World} (h : Keep ks a b) (k : Keep ks b c) : Keep ks a c :=
  ⟨k.os.trans h.os, k.tape.trans h.tape, k.output.trans h.output, Nat.le_trans h.size k.size, fun i hi hn => (k.block i (Nat.lt_of_lt_of_le hi h.size) hn).trans (h.block i hi hn)⟩
theorem Keep.more {ks ls : List Nat} {a b : World} (h : Keep ks a b) (hs : ∀ k, k < a.heap.size → k ∈ ks → k ∈ ls) : Keep ls a b :=
  ⟨h.os, h.tape, h.output, h.size, fun i hi hn => h.block i hi fun hm => hn (hs i hi hm)⟩
theorem Keep.of_below {ks : List Nat} {w w' : World} (h : Below w.heap.size w w') : Keep ks w w' := ⟨h.os, h.tape, h.output, h.size, fun k hk _ => h.block k hk⟩
theorem Keep.set {g : Nat} (w : World) (o : Nat) (v : Value) : Keep [g] w (w.setCell ⟨g, o, none⟩ v) := by
  refine ⟨rfl, rfl, rfl, by simp [World.setCell], fun k hk hne => ?_⟩
  have hne' : g ≠ k := fun h => hne (by simp [h])
  simp [World.setCell, Array.getElem?_modify, hne']
theorem Keep.below {ks : List Nat} {w w' : World} {B : Nat} (h : Keep ks w w') (hB : B ≤ w.heap.size) (hk : ∀ k ∈ ks, B ≤ k) : Below B w w' :=
  ⟨h.os, h.tape, h.output, h.size, fun k hk2 => h.block k (Nat.lt_of_lt_of_le hk2 hB) fun hm => by have := hk k hm; omega⟩
theorem Keep.grown {w w' : World} {o : Option Nat} (h : w.grownBy w' o) : Keep o.toList w w' :=
  ⟨h.os, h.tape, h.output, h.size, fun k hk hn => h.block k hk fun he => hn (by rw [← he]; simp)⟩
theorem own_keep {w w' : World} {base : Nat} {t : TypeId} {v : Value} {n : Nat} {xs : List Value} {ks : List Nat} (ho : w.ownsRow base t 1 v n xs) (hk : Keep ks w w') (hn : ∀ g, v.ownBlock = some g → g ∉ ks) : w'.ownsRow base t 1 v n xs := by
  obtain ⟨h1, h2⟩ := ho
  refine ⟨h1, ?_⟩
  rcases h2 with h2 | ⟨g, cap, cur, h2, h3, h4, h5⟩
  · exact .inl h2
  · exact .inr ⟨g, cap, cur, h2, h3, (hk.block g (lt_heap h4) (hn g (by rw [h2]; rfl))).trans h4, h5⟩
/-- A scanner in memory. -/
def EdIs (w : World) (g : Nat) (rv : Value) (line fault n : Int) (b e : Bool) : Prop :=
  w.heap[g]? = some (.cells #[rv, .int .i64 line, .int .i64 fault, .int .i64 n, .bool b, .bool e] 132 (0, 0))
section
variable {w : World} {g : Nat} {rv : Value} {line fault n : Int} {b e : Bool}
theorem EdIs.c0 (h : EdIs w g rv line fault n b e) : w.cell? ⟨g, 0, none⟩ = some rv := by rw [cell_heap h]; rfl
theorem EdIs.c1 (h : EdIs w g rv line fault n b e) : w.cell? ⟨g, 1, none⟩ = some (.int .i64 line) := by rw [cell_heap h]; rfl
theorem EdIs.c2 (h : EdIs w g rv line fault n b e) : w.cell? ⟨g, 2, none⟩ = some (.int .i64 fault) := by rw [cell_heap h]; rfl
theorem EdIs.c3 (h : EdIs w g rv line fault n b e) : w.cell? ⟨g, 3, none⟩ = some (.int .i64 n) := by rw [cell_heap h]; rfl
theorem EdIs.c4 (h : EdIs w g rv line fault n b e) : w.cell? ⟨g, 4, none⟩ = some (.bool b) := by rw [cell_heap h]; rfl
theorem EdIs.c5 (h : EdIs w g rv line fault n b e) : w.cell? ⟨g, 5, none⟩ = some (.bool e) := by rw [cell_heap h]; rfl
theorem EdIs.f (h : EdIs w g rv line fault n b e) (o : Nat) : w.frozen? ⟨g, o, none⟩ = false := by unfold EdIs at h; simp [World.frozen?, h]
theorem EdIs.lt (h : EdIs w g rv line fault n b e) : g < w.heap.size := lt_heap h
theorem EdIs.s0 (h : EdIs w g rv line fault n b e) (x : Value) : EdIs (w.setCell ⟨g, 0, none⟩ x) g x line fault n b e := by unfold EdIs; rw [heap_set h]; rfl
theorem EdIs.s1 (h : EdIs w g rv line fault n b e) (x : Int) : EdIs (w.setCell ⟨g, 1, none⟩ (.int .i64 x)) g rv x fault n b e := by unfold EdIs; rw [heap_set h]; rfl
theorem EdIs.s2 (h : EdIs w g rv line fault n b e) (x : Int) : EdIs (w.setCell ⟨g, 2, none⟩ (.int .i64 x)) g rv line x n b e := by unfold EdIs; rw [heap_set h]; rfl
theorem EdIs.s3 (h : EdIs w g rv line fault n b e) (x : Int) : EdIs (w.setCell ⟨g, 3, none⟩ (.int .i64 x)) g rv line fault x b e := by unfold EdIs; rw [heap_set h]; rfl
theorem EdIs.s4 (h : EdIs w g rv line fault n b e) (x : Bool) : EdIs (w.setCell ⟨g, 4, none⟩ (.bool x)) g rv line fault n x e := by unfold EdIs; rw [heap_set h]; rfl
theorem EdIs.s5 (h : EdIs w g rv line fault n b e) (x : Bool) : EdIs (w.setCell ⟨g, 5, none⟩ (.bool x)) g rv line fault n b x := by unfold EdIs; rw [heap_set h]; rfl
theorem EdIs.keep {w' : World} {ks : List Nat} (h : EdIs w g rv line fault n b e) (hk : Keep ks w w') (hn : g ∉ ks) : EdIs w' g rv line fault n b e := (hk.block g (lt_heap h) hn).trans h
theorem EdIs.below {w' : World} (h : EdIs w g rv line fault n b e) {B : Nat} (hk : Below B w w') (hn : g < B) : EdIs w' g rv line fault n b e := (hk.block g hn).trans h
end
theorem rd_cut {w : World} {B : Nat} {a : Addr} {bs : List (BitVec 8)} (p : Nat × Nat) (hs : a.spot = none) (h : Rd w B (some a) (bs.map V8)) : Rd w B (some ⟨a.block, a.off + p.1, a.spot⟩) ((Tx.cutOut bs p).map V8) := by
  intro k v hv
  unfold Tx.cutOut at hv
  rw [List.getElem?_map] at hv
  obtain ⟨c, hc, rfl⟩ : ∃ c, ((bs.drop p.1).take p.2)[k]? = some c ∧ v = V8 c := by
    cases hq : ((bs.drop p.1).take p.2)[k]? with
    | none => rw [hq] at hv; cases hv
    | some c => rw [hq] at hv; injection hv with hv; exact ⟨c, rfl, hv.symm⟩
  rw [List.getElem?_take] at hc
  split at hc
  · rw [List.getElem?_drop] at hc
    obtain ⟨b, off, he, hb, hcell⟩ := h (p.1 + k) (V8 c) (by rw [List.getElem?_map, hc]; rfl)
    injection he with he
    subst he
    exact ⟨b, off + p.1, rfl, hb, by rw [Nat.add_assoc]; exact hcell⟩
  · cases hc
theorem cutOut_length (bs : List (BitVec 8)) (p : Nat × Nat) (h : p.1 + p.2 ≤ bs.length) : (Tx.cutOut bs p).length = p.2 := by unfold Tx.cutOut; simp; omega
set_option maxHeartbeats 2000000 in
theorem two_calls (g o k cap B : Nat) (a : Addr) (bs : List (BitVec 8)) (p q : Nat × Nat) (n : Int) (w : World) (hk : 2 ≤ k) (hm : bs.length ≤ 1099511627776) (hsp : a.spot = none) (hp : p.1 + p.2 ≤ bs.length) (hq : q.1 + q.2 ≤ bs.length)
    (c0 : w.cell? ⟨g, o, none⟩ = some (VW (some a) p)) (c1 : w.cell? ⟨g, o + 1, none⟩ = some (VW (some a) q)) (hr : Rd w B (some a) (bs.map V8)) :
    Calls Tryz.prog 102 #[.slice (some ⟨g, o, none⟩) k cap, .int .i64 n] w fun e w' => e = .returned (.tuple #[.int .i64 (Tx.two (Tx.cutOut bs p) (Tx.cutOut bs q) n).1, .int .i64 (Tx.two (Tx.cutOut bs p) (Tx.cutOut bs q) n).2.1, .int .i64 (Tx.two (Tx.cutOut bs p) (Tx.cutOut bs q) n).2.2]) ∧ w = w' := by
  have H1 := Lib.hid (fun w1 (e : w = w1) => number_calls (some ⟨a.block, a.off + p.1, a.spot⟩) p.2 p.2 B (Tx.cutOut bs p) w1 (cutOut_length bs p hp).symm (by omega) (by subst e; exact rd_cut p hsp hr))
  have H2 := Lib.hid (fun w1 (e : w = w1) => number_calls (some ⟨a.block, a.off + q.1, a.spot⟩) q.2 q.2 B (Tx.cutOut bs q) w1 (cutOut_length bs q hq).symm (by omega) (by subst e; exact rd_cut q hsp hr))
  obtain ⟨x, hx⟩ : ∃ x, x = Tx.num (Tx.cutOut bs p) := ⟨_, rfl⟩
  obtain ⟨y, hy⟩ : ∃ y, y = Tx.num (Tx.cutOut bs q) := ⟨_, rfl⟩
  have Ht := Lib.hid (show Tx.two (Tx.cutOut bs p) (Tx.cutOut bs q) n = if x.2 = false ∨ y.2 = false then (0, 0, 40) else if n ≤ x.1 ∨ n ≤ y.1 then (0, 0, 42) else (x.1, y.1, 0) by unfold Tx.two; rw [hx, hy])
  rw [← hx] at H1
  rw [← hy] at H2
  obtain ⟨x, xb⟩ := x
  obtain ⟨y, yb⟩ := y
  have l0 : (0 : Int) < (k : Int) := by omega
  have l1 : (1 : Int) < (k : Int) := by omega
  clear hx hy hp hq hr hm hk
  go_enter Tryz.func102, Tryz.ntmps102
  go_wp2_with fail
  refine (H1.out w rfl).mono ?_
  rintro e w' ⟨rfl, rfl⟩
  go_wp2_with fail
  refine (H2.out w rfl).mono ?_
  rintro e w' ⟨rfl, rfl⟩
  cases xb with
  | false =>
    have Hf := Lib.hid (show Tx.two (Tx.cutOut bs p) (Tx.cutOut bs q) n = (0, 0, 40) by rw [Ht.out, if_pos (Or.inl rfl)])
    go_wp2_with fail
    go_ret3
    exact ⟨by rw [Hf.out]; rfl, rfl⟩
  | true =>
    cases yb with
    | false =>
      have Hf := Lib.hid (show Tx.two (Tx.cutOut bs p) (Tx.cutOut bs q) n = (0, 0, 40) by rw [Ht.out, if_pos (Or.inr rfl)])
      go_wp2_with fail
      go_ret3
      exact ⟨by rw [Hf.out]; rfl, rfl⟩
    | true =>
      have Ht2 := Lib.hid (show Tx.two (Tx.cutOut bs p) (Tx.cutOut bs q) n = if n ≤ x ∨ n ≤ y then (0, 0, 42) else (x, y, 0) by rw [Ht.out, if_neg (by simp)])
      by_cases h1 : n ≤ x
      · have Hf := Lib.hid (show Tx.two (Tx.cutOut bs p) (Tx.cutOut bs q) n = (0, 0, 42) by rw [Ht2.out, if_pos (Or.inl h1)])
        go_wp2_with fail
        go_ret3
        exact ⟨by rw [Hf.out]; rfl, rfl⟩
      · by_cases h2 : n ≤ y
        · have Hf := Lib.hid (show Tx.two (Tx.cutOut bs p) (Tx.cutOut bs q) n = (0, 0, 42) by rw [Ht2.out, if_pos (Or.inr h2)])
          go_wp2_with fail
          go_ret3
          exact ⟨by rw [Hf.out]; rfl, rfl⟩
        · have Hf := Lib.hid (show Tx.two (Tx.cutOut bs p) (Tx.cutOut bs q) n = (x, y, 0) by rw [Ht2.out, if_neg (by omega)])
          go_wp2_with fail
          go_ret3
          exact ⟨by rw [Hf.out]; rfl, rfl⟩
end Go.Proofs.YtmeoafodcniliaaGreatDoor.C4
