/- a row of bytes, known by its cells alone: what a conversion of a string leaves, grown by strings -/
import Derived.Test.YtgoobadkbndfgaaDoorTxY
import Derived.Lib.ConvBytes
import Derived.Laws.IdiomCopy
import Derived.Lib.EndianMore
namespace Go.Proofs.YtgoobadkbndfgaaDoor
open Go.RowKit
set_option linter.unusedSimpArgs false
set_option linter.unusedVariables false
/-- The slice's cells are xs; all cells up to its capacity are there and may be written. -/
def OwnM (w : World) (base : Nat) (v : Value) (n : Nat) (xs : List Value) : Prop :=
  ∃ g cap, v = .slice (some ⟨g, 0, none⟩) n cap ∧ base ≤ g ∧ g < w.heap.size ∧ n ≤ cap ∧ cap ≤ maxLen ∧ xs.length = n ∧ (∀ j u, xs[j]? = some u → w.cell? ⟨g, j, none⟩ = some u) ∧
    ∀ j, j < cap → (w.cell? ⟨g, j, none⟩).isSome = true ∧ w.frozen? ⟨g, j, none⟩ = false
theorem OwnM.rd {w : World} {base : Nat} {A : Option Addr} {n cap : Nat} {xs : List Value} (h : OwnM w base (.slice A n cap) n xs) : Rd w w.heap.size A xs ∧ n ≤ cap ∧ cap ≤ maxLen ∧ A ≠ none := by
  obtain ⟨g, c, hv, _, hg, h1, h2, h3, h4, _⟩ := h
  injection hv with e1 e2 e3
  subst e1 e3
  exact ⟨fun k v hk => ⟨g, 0, rfl, hg, by rw [Nat.zero_add]; exact h4 k v hk⟩, h1, h2, by simp⟩
theorem OwnM.form {w : World} {base : Nat} {v : Value} {n : Nat} {xs : List Value} (h : OwnM w base v n xs) : ∃ A cap, v = .slice A n cap := by
  obtain ⟨g, c, hv, _⟩ := h; exact ⟨_, _, hv⟩
theorem OwnM.below {w w' : World} {base : Nat} {v : Value} {n : Nat} {xs : List Value} (h : OwnM w base v n xs) (hb : Below w.heap.size w w') : OwnM w' base v n xs := by
  obtain ⟨g, c, hv, h0, hg, h1, h2, h3, h4, h5⟩ := h
  have hc : ∀ j, w'.cell? ⟨g, j, none⟩ = w.cell? ⟨g, j, none⟩ := fun j => hb.cell (p := ⟨g, j, none⟩) hg
  have hf : ∀ j, w'.frozen? ⟨g, j, none⟩ = w.frozen? ⟨g, j, none⟩ := fun j => hb.frozen (p := ⟨g, j, none⟩) hg
  exact ⟨g, c, hv, h0, Nat.lt_of_lt_of_le hg hb.size, h1, h2, h3, fun j u hj => (hc j).trans (h4 j u hj), fun j hj => by rw [hc, hf]; exact h5 j hj⟩
theorem OwnM.of_own {w : World} {base : Nat} {t : TypeId} {A : Option Addr} {n cap : Nat} {xs : List Value} (h : w.ownsRow base t 1 (.slice A n cap) n xs) (hn : 0 < n) : OwnM w base (.slice A n cap) n xs := by
  obtain ⟨h1, h2⟩ := h
  rcases h2 with ⟨h2, rfl⟩ | ⟨g, cap', cur, h2, hb, h4, h5, h6, h7, h8⟩
  · omega
  · injection h2 with e1 e2 e3
    subst e1 e3
    refine ⟨g, cap, rfl, hb, lt_heap h4, h5, h6, by simpa using h1, fun j u hj => ?_, fun j hj => ⟨?_, frozen_heap h4 j⟩⟩
    · have hj2 : j < xs.length := (List.getElem?_eq_some_iff.1 hj).1
      rw [cell_heap h4, ← hj, ← h8, List.getElem?_take, if_pos (by omega)]; simp
    · rw [cell_heap h4, Array.getElem?_eq_getElem (by omega)]; rfl
theorem cap_le (w : World) (n c e : Nat) (h : n ≤ maxLen) : grownCap w n c e ≤ maxLen := grownCap_le_maxLen w n c e h
/-- What the conversion of a string leaves. -/
theorem conv_own (w : World) (s : ByteArray) (e : TypeId) (hs : s.size ≤ maxLen) : OwnM (Lib.bytesWorld w e s) w.heap.size (.slice (some ⟨w.heap.size, 0, none⟩) s.size (grownCap w s.size 0 e)) s.size (Lib.strCells s) := by
  have hge := grownCap_ge w s.size 0 e
  refine ⟨w.heap.size, _, rfl, Nat.le_refl _, by rw [Lib.bytesWorld_size]; omega, hge, cap_le _ _ _ _ hs, by simp [Lib.strCells_length], fun j u hj => ?_, fun j hj => ⟨?_, ?_⟩⟩
  · have hjl : j < s.size := by have := (List.getElem?_eq_some_iff.1 hj).1; rwa [Lib.strCells_length] at this
    rw [Lib.bytesWorld_cell w e s j hjl, ← hj]
    unfold Lib.strCells
    have hjl2 : j < s.data.toList.length := by simpa using hjl
    rw [List.getElem?_map, List.getElem?_eq_getElem hjl2]
    simp [List.getD, List.getElem?_eq_getElem hjl2]
  · have := Lib.bytesWorld_at_new w e s
    rw [show (Lib.bytesWorld w e s).cell? ⟨w.heap.size, j, none⟩ = (Lib.bytesCells w e s)[j]? by simp [World.cell?, this]]
    have hsz : (Lib.bytesCells w e s).size = grownCap w s.size 0 e := by
      unfold Lib.bytesCells; simp; omega
    rw [Array.getElem?_eq_getElem (by omega)]; rfl
  · have := Lib.bytesWorld_at_new w e s
    have hsz : (Lib.bytesCells w e s).size = grownCap w s.size 0 e := by
      unfold Lib.bytesCells; simp; omega
    simp [World.frozen?, this]; omega
theorem conv_below (w : World) (s : ByteArray) (e : TypeId) : Below w.heap.size w (Lib.bytesWorld w e s) := by
  refine ⟨?_, ?_, ?_, by rw [Lib.bytesWorld_size]; omega, fun k hk => Lib.bytesWorld_at_old w e s k hk⟩
  · simp [Lib.bytesWorld, World.freeze]; try rfl
  · simp [Lib.bytesWorld, World.freeze]; try rfl
  · simp [Lib.bytesWorld, World.freeze]; try rfl
/-- append of a string to such a row. -/
theorem run_app_str {P : Program} (w : World) (base : Nat) (t u ty e : TypeId) (i : TypeInfo) (ht : P.underlying t = some (.slice e)) (hu : P.underlying u = some .string) (hi : P.info? e = some i) (hz : i.zero = some (.int .u8 0))
    (hsize : i.size = 1) (hby : i.bytes = 1) (v : Value) (n : Nat) (xs : List Value) (hown : OwnM w base v n xs) (s : ByteArray) (hm : n + s.size ≤ 1000000000000) (hbase : base ≤ w.heap.size) :
    ∃ v' w', (Builtin.append_ #[t, u] ty #[v, .string s]).run P w = .ok v' w' ∧ OwnM w' base v' (n + s.size) (xs ++ Lib.strCells s) ∧ Below base w w' := by
  obtain ⟨g, cap, rfl, hb, hg, h1, h2, h3, h4, h5⟩ := hown
  have hl := Lib.strCells_length s
  by_cases hroom : n + s.size ≤ cap
  · have hf := Lib.run_firstCells_string (P := P) w 1 s
    have hst := run_storeCells_cells (P := P) g n (Lib.strCells s) 0 w (fun j hj => (h5 (n + (0 + j)) (by omega)).1 |> (by simpa using ·)) (fun j hj => (h5 (n + (0 + j)) (by omega)).2 |> (by simpa using ·)) (Lib.strCells_oneCell s)
    simp only [Nat.add_zero] at hst
    refine ⟨.slice (some ⟨g, 0, none⟩) (n + s.size) cap, w.setCells g n (Lib.strCells s), ?_, ?_, ?_⟩
    · simp [Builtin.append_, run_underlying ht, run_underlying hu, sizeOf, typeInfo, hi, hsize, Builtin.lenOf, hroom, hf, Addr.add_lit, hst]
    · refine ⟨g, cap, rfl, hb, Nat.lt_of_lt_of_le hg (Lib.below_setCells_w (Nat.le_refl g) _ _ _).size, hroom, h2, by simp [h3, hl], fun j u hj => ?_, fun j hj => ⟨?_, by rw [World.frozen?_setCells]; exact (h5 j hj).2⟩⟩
      · by_cases hjn : j < n
        · rw [World.cell?_setCells_out g _ _ _ _ (fun _ _ => Or.inl hjn)]
          rw [List.getElem?_append_left (by omega)] at hj
          exact h4 j u hj
        · have hj2 : j - n < (Lib.strCells s).length := by
            have := (List.getElem?_eq_some_iff.1 hj).1
            simp at this; omega
          have := World.cell?_setCells_in g (Lib.strCells s) n w (fun i hi => (h5 (n + i) (by omega)).1) (j - n) hj2
          rw [show n + (j - n) = j by omega] at this
          rw [this]
          rw [List.getElem?_append_right (by omega), h3, List.getElem?_eq_getElem hj2] at hj
          exact hj
      · by_cases hjn : j < n ∨ n + s.size ≤ j
        · rw [World.cell?_setCells_out g _ _ _ _ (fun _ _ => by rw [hl]; exact hjn)]
          exact (h5 j hj).1
        · have := World.cell?_setCells_in g (Lib.strCells s) n w (fun i hi => (h5 (n + i) (by omega)).1) (j - n) (by omega)
          rw [show n + (j - n) = j by omega] at this
          rw [this]; rfl
    · exact Lib.below_setCells_w hb _ _ _
  · have hgr := Lib.run_append_grow_string (P := P) w t u ty e i (.int .u8 0) ht hu hi hz ⟨g, 0, none⟩ n cap xs (by rw [hsize]; omega) (fun j v hj => by rw [Addr.add_lit, Nat.zero_add]; exact h4 j v hj) s (by omega) (by omega) (growslice_fits (bytes := i.bytes) (by omega) (by rw [hby]; omega))
    have hge := grownCap_ge w (n + s.size) cap e
    have hcl := cap_le w (n + s.size) cap e (by unfold maxLen; omega)
    refine ⟨_, _, hgr, ?_, ?_⟩
    · refine OwnM.of_own (t := e) ⟨by simp [h3, hl], .inr ⟨w.heap.size, _, _, rfl, hbase, heap_alloc_new w.drew _, hge, hcl, ?_, ?_⟩⟩ (by omega)
      · simp only [Array.size_append, List.size_toArray, size_zeroCells, h3, hl]
        show n + s.size + (grownCap w (n + s.size) cap e - (n + s.size)) * 1 = grownCap w (n + s.size) cap e * 1
        omega
      · simp only [Array.toList_append, List.append_assoc]
        rw [← List.append_assoc, show (n + s.size) * 1 = (xs ++ Lib.strCells s).length by simp [h3, hl]]
        exact List.take_left
    · exact ((Below.refl base w).drew).alloc hbase _
theorem wpList_app_str {P : Program} {w : World} {ops : Array Oper} {rest : List Oper} {o : Oper} {a : Act} {Q : Exit → Act → World → Prop} (hgd : o.guard = none) (sl x : Operand) (t u : TypeId)
    (ho : o.op = .call { callee := .builtin .append, args := #[sl, x], argTypes := #[t, u] })
    (base : Nat) (e : TypeId) (i : TypeInfo) (ht : P.underlying t = some (.slice e)) (hu : P.underlying u = some .string) (hi : P.info? e = some i) (hz : i.zero = some (.int .u8 0)) (hsize : i.size = 1) (hby : i.bytes = 1)
    (v : Value) (n : Nat) (xs : List Value) (hs : a.eval sl = v) (hown : OwnM w base v n xs) (s : ByteArray) (hx : a.eval x = .string s) (hm : n + s.size ≤ 1000000000000) (hbase : base ≤ w.heap.size)
    (h : ∀ v' w', OwnM w' base v' (n + s.size) (xs ++ Lib.strCells s) → Below base w w' → wpList P ops Q rest (a.put o.dst v') w') : wpList P ops Q (o :: rest) a w := by
  refine wpList_plain hgd fun K hK => ?_
  obtain ⟨v', w', hr, h2, h3⟩ := run_app_str (P := P) w base t u o.type e i ht hu hi hz hsize hby v n xs hown s hm hbase
  unfold Oper.wp execOp
  simp only [ho, resolve, invoke, builtin, Sem.run_bind, Sem.run_pure, Result.andThen_ok, List.map_toArray, List.map_cons, List.map_nil, hs, hx, hr]
  exact hK _ _ (h v' w' h2 h3)
end Go.Proofs.YtgoobadkbndfgaaDoor
