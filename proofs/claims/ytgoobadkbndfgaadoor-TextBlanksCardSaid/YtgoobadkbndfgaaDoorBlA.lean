/- buffers of one's own, what is appended to them; blanks -/
import Derived.Test.YtgoobadkbndfgaaDoorBlM
import Derived.Test.YtgoobadkbndfgaaDoorTxP
import Derived.Test.YtgoobadkbndfgaaDoorRfA
import Derived.Deep.DeepCutAuto
namespace Go.Proofs.YtgoobadkbndfgaaDoor
open Go.RowKit
set_option linter.unusedSimpArgs false
set_option linter.unusedVariables false
/-- A row of bytes that the call has made. -/
def Buf (w0 w : World) (v : Value) (X : List (BitVec 8)) : Prop := w.ownsRow w0.heap.size 5 1 v X.length (X.map V8) ∧ Below w0.heap.size w0 w
theorem Buf.nil {w0 w : World} (h : Below w0.heap.size w0 w) : Buf w0 w (.slice none 0 0) [] := ⟨World.ownsRow_nil _ _ _ _, h⟩
theorem Buf.size {w0 w : World} {v : Value} {X : List (BitVec 8)} (h : Buf w0 w v X) : w0.heap.size ≤ w.heap.size := h.2.size
theorem Buf.below {w0 w w' : World} {v : Value} {X : List (BitVec 8)} (h : Buf w0 w v X) (hb : Below w.heap.size w w') : Buf w0 w' v X :=
  ⟨own_below h.1 hb (Nat.le_refl _), h.2.trans (hb.mono h.size)⟩
theorem Buf.form {w0 w : World} {v : Value} {X : List (BitVec 8)} (h : Buf w0 w v X) : ∃ A cap, v = .slice A X.length cap ∧ X.length ≤ cap ∧ cap ≤ maxLen := by
  obtain ⟨A, cap, h1, h2, h3, _⟩ := own_form h.1
  exact ⟨A, cap, h1, h2, h3⟩
theorem Buf.rd {w0 w : World} {A : Option Addr} {n cap : Nat} {X : List (BitVec 8)} (h : Buf w0 w (.slice A n cap) X) : Rd w w.heap.size A (X.map V8) := by
  obtain ⟨A', cap', he, _⟩ := h.form
  injection he with h1 h2 h3
  subst h1 h2 h3
  exact own_rd h.1
theorem Buf.nn {w0 w : World} {A : Option Addr} {n cap : Nat} {X : List (BitVec 8)} (h : Buf w0 w (.slice A n cap) X) : A = none → n = 0 ∧ cap = 0 := by
  obtain ⟨A', cap', he, _⟩ := h.form
  injection he with h1 h2 h3
  subst h1 h2 h3
  exact own_nil h.1
theorem wpList_buf_rd {w0 w : World} {ops : Array Oper} {rest : List Oper} {o : Oper} {a : Act} {Q : Exit → Act → World → Prop} (hgd : o.guard = none) (s x : Operand)
    (ho : o.op = .call { callee := .builtin .append, args := #[s, x], argTypes := #[27, 27] })
    (v : Value) (X : List (BitVec 8)) (hs : a.eval s = v) (hb : Buf w0 w v X) (A : Option Addr) (m c B : Nat) (l : List (BitVec 8)) (hx : a.eval x = .slice A m c) (hm : m = l.length) (hnil : A = none → m = 0 ∧ c = 0) (hr : Rd w B A (l.map V8)) (hlen : X.length + l.length ≤ 1099511627776)
    (h : ∀ A' n' cap' w', n' = (X ++ l).length → Buf w0 w' (.slice A' n' cap') (X ++ l) → Keep v.ownBlock.toList w w' → wpList Tryd.prog ops Q rest (a.put o.dst (.slice A' n' cap')) w') : wpList Tryd.prog ops Q (o :: rest) a w := by
  obtain ⟨i8, h8, h80, h81, h82⟩ := info_parts infoU8
  refine wpList_append_rd hgd s x 27 ho w0.heap.size 5 i8 _ 1 descU8s h8 h80 h81 h82 rfl v X.length (X.map V8) hs hb.1 B A m c (l.map V8) hx (by rw [List.length_map]; exact hm) hnil hr (v8_one l) (by unfold maxLen; omega) (by omega) hb.size ?_
  intro v' w' h1 h2
  obtain ⟨A', cap', rfl, _⟩ := own_form h1
  have hw : Buf w0 w' (.slice A' (X.length + m) cap') (X ++ l) := ⟨by rw [List.length_append, List.map_append, ← hm]; exact h1, hb.2.grown h2 hb.size fun k hk => (hb.1.lt k hk).1⟩
  exact h A' _ cap' w' (by rw [List.length_append, hm]) hw (Keep.grown h2)
theorem wpList_buf_byte {w0 w : World} {ops : Array Oper} {rest : List Oper} {o : Oper} {a : Act} {Q : Exit → Act → World → Prop} (hgd : o.guard = none) (s x : Operand)
    (ho : o.op = .call { callee := .builtin .append, args := #[s, x], argTypes := #[27, 27] })
    (v : Value) (X : List (BitVec 8)) (hs : a.eval s = v) (hb : Buf w0 w v X) (c : BitVec 8) (C : Array Value) (hC : C = #[V8 c]) (hx : a.eval x = .slice (some ⟨w.heap.size, 0, none⟩) 1 1) (hlen : X.length + 1 ≤ 1099511627776)
    (h : ∀ A' n' cap' w', n' = (X ++ [c]).length → Buf w0 w' (.slice A' n' cap') (X ++ [c]) → Keep v.ownBlock.toList w w' → wpList Tryd.prog ops Q rest (a.put o.dst (.slice A' n' cap')) w') : wpList Tryd.prog ops Q (o :: rest) a (w.alloc (.cells C 5)) := by
  subst hC
  have hba : Below w.heap.size w (w.alloc (.cells #[V8 c] 5)) := (Below.refl _ _).alloc (Nat.le_refl _) _
  refine wpList_buf_rd hgd s x ho v X hs (hb.below hba) _ 1 1 _ [c] hx rfl (by intro h; cases h) (rd_new w [V8 c] #[V8 c] 5 rfl) (by simpa using hlen) ?_
  intro A' n' cap' w' h1 h2 h3
  exact h A' n' cap' w' h1 h2 ((Keep.of_below (ks := v.ownBlock.toList) hba).trans h3)
theorem wpList_buf_str {w0 w : World} {ops : Array Oper} {rest : List Oper} {o : Oper} {a : Act} {Q : Exit → Act → World → Prop} (hgd : o.guard = none) (s x : Operand)
    (ho : o.op = .call { callee := .builtin .append, args := #[s, x], argTypes := #[27, 9] })
    (v : Value) (X : List (BitVec 8)) (hs : a.eval s = v) (hb : Buf w0 w v X) (l : List (BitVec 8)) (hx : a.eval x = SS l) (hlen : X.length + l.length ≤ 1099511627776)
    (h : ∀ A' n' cap' w', n' = (X ++ l).length → Buf w0 w' (.slice A' n' cap') (X ++ l) → Keep v.ownBlock.toList w w' → wpList Tryd.prog ops Q rest (a.put o.dst (.slice A' n' cap')) w') : wpList Tryd.prog ops Q (o :: rest) a w := by
  obtain ⟨i8, h8, h80, h81, h82⟩ := info_parts infoU8
  have hz := strOf_size l
  refine Lib.wpList_append_own_string w hgd s x 27 9 ho w0.heap.size 5 i8 descU8s (by kernel_rfl) h8 h80 h81 h82 v X.length (X.map V8) hs hb.1 (strOf l) hx (by unfold maxLen; omega) (by omega) hb.size ?_
  intro v' w' h1 h2 _
  obtain ⟨A', cap', rfl, _⟩ := own_form h1
  have hw : Buf w0 w' (.slice A' (X.length + (strOf l).size) cap') (X ++ l) := ⟨by rw [List.length_append, List.map_append, ← hz, ← strCells_of l]; exact h1, hb.2.grown h2 hb.size fun k hk => (hb.1.lt k hk).1⟩
  exact h A' _ cap' w' (by rw [List.length_append, hz]) hw (Keep.grown h2)
def Bls (l : List (BitVec 8)) : Prop := ∀ c ∈ l, c = 9#8 ∨ c = 32#8
theorem Bls.nil : Bls [] := fun _ h => by cases h
theorem Bls.snoc {l : List (BitVec 8)} (h : Bls l) {c : BitVec 8} (hc : c = 9#8 ∨ c = 32#8) : Bls (l ++ [c]) := by
  intro d hd
  rcases List.mem_append.1 hd with h1 | h1
  · exact h d h1
  · simp at h1; subst h1; exact hc
/-- What blanks answers. -/
def BlSaid (w : World) (en : Ending) (w' : World) : Prop := ∃ A l cap, en = .returned (.slice A l.length cap) ∧ Bls l ∧ l.length ≤ 8 ∧ Buf w w' (.slice A l.length cap) l
set_option maxHeartbeats 4000000 in
set_option maxRecDepth 20000 in
theorem blanks_calls (z : Int) (w : World) (h0 : 0 ≤ z) (h1 : z ≤ 9223372036854775807) :
    Calls Tryd.prog 51 #[.int .i64 z] w (BlSaid w) := by
  obtain ⟨M, hM, hM8⟩ : ∃ M : Nat, Int.tmod z 9 = (M : Int) ∧ M ≤ 8 := ⟨(z % 9).toNat, by rw [Int.tmod_eq_emod_of_nonneg h0]; omega, by omega⟩
  go_enter Tryd.func51, Tryd.ntmps51
  go_wp2_with fail
  go_loopw [3, 4] (fun bv iv wr => ∃ (i : Nat) (l : List (BitVec 8)), iv = .int .i64 (i : Int) ∧ i ≤ 8 ∧ Bls l ∧ l.length = i ∧ Buf w wr bv l) (fun _ iv _ => 8 - (intOf iv).toNat)
  case atStart => exact ⟨0, [], rfl, by omega, Bls.nil, rfl, Buf.nil (Below.refl _ _)⟩
  case round =>
    obtain ⟨i, l, rfl, hi, hl, hll, hb⟩ := hrel
    obtain ⟨A, cap, rfl, hcc, hcm⟩ := hb.form
    rw [hll] at hcc
    have Hl := Lib.hid hl; have Hb := Lib.hid hb; have Hll := Lib.hid hll
    have Hwr := Lib.hid hb.size
    clear hl hb
    by_cases hlt : i < M
    · have q1 : (i : Int) < (M : Int) := by omega
      obtain ⟨S, hS⟩ : ∃ S, IntKind.i64.wrap (z + (i : Int)) = S := ⟨_, rfl⟩
      rw [hll] at Hb ⊢
      clear hll
      by_cases h3 : Int.tmod S 3 = 0
      · go_wp2_with (at_builtin; refine wpList_buf_byte (w0 := w) rfl _ _ rfl _ l rfl Hb.out 9#8 _ rfl rfl (by have := Hll.out; omega) ?_; intro A1 n1 cap1 w1 e1 hb1 hk1; have E1 := Lib.hid e1; have Hb1 := Lib.hid hb1; clear e1 hb1 hk1)
        go_roundw
        case rel => exact ⟨i + 1, l ++ [9#8], by congr 1, by omega, Hl.out.snoc (Or.inl rfl), by rw [List.length_append, Hll.out]; rfl, Hb1.out⟩
        case measure => simp [intOf]; omega
      · go_wp2_with (at_builtin; refine wpList_buf_byte (w0 := w) rfl _ _ rfl _ l rfl Hb.out 32#8 _ rfl rfl (by have := Hll.out; omega) ?_; intro A1 n1 cap1 w1 e1 hb1 hk1; have E1 := Lib.hid e1; have Hb1 := Lib.hid hb1; clear e1 hb1 hk1)
        go_roundw
        case rel => exact ⟨i + 1, l ++ [32#8], by congr 1, by omega, Hl.out.snoc (Or.inr rfl), by rw [List.length_append, Hll.out]; rfl, Hb1.out⟩
        case measure => simp [intOf]; omega
    · have q1 : ¬ (i : Int) < (M : Int) := by omega
      clear hll
      go_wp2_with fail
      go_ret
      exact ⟨A, l, cap, rfl, Hl.out, by have := Hll.out; omega, Hb.out⟩
end Go.Proofs.YtgoobadkbndfgaaDoor
