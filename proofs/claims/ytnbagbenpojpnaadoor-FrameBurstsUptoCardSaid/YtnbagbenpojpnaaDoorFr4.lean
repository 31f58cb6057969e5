/- frame.Decode -/
import Derived.Test.YtnbagbenpojpnaaDoorFr3
import Derived.BigQuiet
import Derived.Deep.RegionHeld3
import Derived.Deep.MidRow
import Derived.Laws.Cover3
import Derived.ChangeKeysEq
namespace Go.Proofs.YtnbagbenpojpnaaDoor
open Go.RowKit
set_option linter.unusedSimpArgs false
set_option linter.unusedVariables false
theorem aggFrame : (Tryd.prog.underlying 24).map aggDesc = some true := by kernel_rfl
theorem sizeFrame : (Tryd.prog.info? 24).map (·.size) = some 2 := by kernel_rfl
theorem agg_of {P : Program} {ty : TypeId} (h : (P.underlying ty).map aggDesc = some true) : ∃ d, P.underlying ty = some d ∧ aggDesc d = true := by
  cases hq : P.underlying ty with
  | none => simp [hq] at h
  | some d => rw [hq] at h; exact ⟨d, rfl, by simpa using h⟩
section
variable {dst : Option Tmp} {ty : TypeId} {pos : String} {af : Array Edge} {gd : Option (Nat × Bool)} {x y : Operand} {a : Act} {w : World} {K : Act → World → Prop} {Q : Exit → Act → World → Prop}
theorem loadF (h : IsRowAt w (a.eval x) 24 2) : Oper.wp Tryd.prog ⟨dst, .load 24 x, ty, pos, af, gd⟩ a w K Q = K (a.put dst (.agg (rowAt w (a.eval x)))) w := by
  obtain ⟨d, h1, h2⟩ := agg_of aggFrame
  exact op_load_row h1 h2 sizeFrame h
theorem storeF (h : IsRowAt w (a.eval x) 24 2) (hy : IsAggV (a.eval y) 2) : Oper.wp Tryd.prog ⟨dst, .store 24 x y, ty, pos, af, gd⟩ a w K Q = K (a.put dst undef) (w.setRow (blkOf (a.eval x)) (aggOf (a.eval y))) := op_store_row sizeFrame h hy
end
theorem results_cell3 {P : Program} {fn : Func} {p u v : Tmp} {ty : TypeId} (h : fn.results = #[.cell p ty, .tmp u, .tmp v]) (tmps : Array Value) (w : World) (g : Nat) (t : TypeId) (cs : Array Value) (fr : Nat × Nat)
    (hp : tmps.getD p undef = .pointer (some ⟨g, 0, none⟩)) (hg : w.heap[g]? = some (.cells cs t fr))
    (hu : (P.underlying ty).map aggDesc = some true) (hi : (P.info? ty).map (·.size) = some cs.size) :
    (results fn tmps).run P w = .ok (.tuple #[.agg cs, tmps.getD u undef, tmps.getD v undef]) w := by
  have hp' : tmps[p]?.getD undef = .pointer (some ⟨g, 0, none⟩) := by simpa using hp
  obtain ⟨d, h1, h2⟩ := agg_of hu
  simp [results, h, hp', asAddr, run_loadVar_row w g t ty cs fr d hg h1 (by cases d <;> simp_all [aggDesc]) hi]
theorem pair_cells (k : Int) (A : Option Addr) (n cap : Nat) : Cells1 #[.int .i64 k, .slice A n cap] 2 := ⟨rfl, by intro v hv; simp at hv; rcases hv with rfl | rfl <;> rfl⟩
/-- What a call of Decode answers. -/
def DecAns (bs : List (BitVec 8)) (w : World) (e : Ending) (w' : World) : Prop :=
  Below w.heap.size w w' ∧ ((Fr.good bs = false ∧ e = .returned (.tuple #[VF 0 none 0 0, .int .i64 0, .int .i64 32])) ∨
    (Fr.good bs = true ∧ ∃ A' cap', e = .returned (.tuple #[VF (n8 (Fr.kOf bs) : Int) A' (Fr.nOf bs) cap', .int .i64 ((Fr.nOf bs + 12 : Nat) : Int), .int .i64 0]) ∧
      w'.ownsRow w.heap.size 5 1 (.slice A' (Fr.nOf bs) cap') (Fr.nOf bs) ((Fr.pOf bs).map V8)))
attribute [local go_sem ↓] loadF storeF load4 load8 store4 store8
attribute [local go_sem] isLoadOf loadArg isRowAt_ptr rowAt_ptr blkOf_ptr aggOf_agg isAggV_agg isRow_alloc_new pair_cells
set_option maxHeartbeats 1000000 in
theorem decode_short (A : Option Addr) (n cap : Nat) (bs : List (BitVec 8)) (w : World) (hn : n = bs.length) (h : n < 12) :
    Calls Tryd.prog 17 #[.slice A n cap] w (DecAns bs w) := by
  have hb : (n : Int) < 12 := by omega
  have Hg := Lib.hid (show Fr.good bs = false by unfold Fr.good; rw [decide_eq_false (by omega)]; rfl)
  clear hn
  go_enter Tryd.func17, Tryd.ntmps17
  go_wp2_with fail
  refine bodyPost_ret (results_cell3 rfl _ _ w.heap.size 24 _ (0, 0) rfl (setRow_heap _ _ _ _ _ _ (heap_alloc_new _ _)) aggFrame sizeFrame) rfl ?_
  exact ⟨below_setRow ((Below.refl _ _).alloc (Nat.le_refl _) _) (Nat.le_refl _) _, Or.inl ⟨Hg.out, rfl⟩⟩
/-- The first eight bytes, and where they lie. -/
structure Eight (w : World) (A : Option Addr) (blk off : Nat) (bs : List (BitVec 8)) (b0 b1 b2 b3 b4 b5 b6 b7 : BitVec 8) : Prop where
  ea : A = some ⟨blk, off, none⟩
  lt : blk < w.heap.size
  c0 : w.cell? ⟨blk, off, none⟩ = some (V8 b0)
  c1 : w.cell? ⟨blk, off + 1, none⟩ = some (V8 b1)
  c2 : w.cell? ⟨blk, off + 2, none⟩ = some (V8 b2)
  c3 : w.cell? ⟨blk, off + 3, none⟩ = some (V8 b3)
  c4 : w.cell? ⟨blk, off + 4, none⟩ = some (V8 b4)
  c5 : w.cell? ⟨blk, off + 5, none⟩ = some (V8 b5)
  c6 : w.cell? ⟨blk, off + 6, none⟩ = some (V8 b6)
  c7 : w.cell? ⟨blk, off + 7, none⟩ = some (V8 b7)
  tk : bs.take 8 = [b0, b1, b2, b3, b4, b5, b6, b7]
  no : Fr.nOf bs = n8 b2 * 256 + n8 b3
  ko : Fr.kOf bs = b1
theorem eight {w : World} {A : Option Addr} {B n : Nat} {bs : List (BitVec 8)} (hn : n = bs.length) (h12 : ¬ n < 12) (hr : Rd w B A (bs.map V8)) (hB : B ≤ w.heap.size) :
    ∃ blk off b0 b1 b2 b3 b4 b5 b6 b7, Eight w A blk off bs b0 b1 b2 b3 b4 b5 b6 b7 := by
  match bs, hn, hr with
  | b0 :: b1 :: b2 :: b3 :: b4 :: b5 :: b6 :: b7 :: rest, hn, hr =>
    obtain ⟨blk, off, e, hb, c0⟩ := hr 0 (V8 b0) rfl
    have hc : ∀ (i : Nat) (v : Value), ((b0 :: b1 :: b2 :: b3 :: b4 :: b5 :: b6 :: b7 :: rest).map V8)[i]? = some v → w.cell? ⟨blk, off + i, none⟩ = some v := fun i v hv => by
      obtain ⟨b', o', e', _, c'⟩ := hr i v hv
      rw [e] at e'; injection e' with e'; injection e' with e1 e2; subst e1; subst e2; exact c'
    exact ⟨blk, off, b0, b1, b2, b3, b4, b5, b6, b7, e, by omega, c0, hc 1 _ rfl, hc 2 _ rfl, hc 3 _ rfl, hc 4 _ rfl, hc 5 _ rfl, hc 6 _ rfl, hc 7 _ rfl, rfl, rfl, rfl⟩
  | [], hn, _ | [_], hn, _ | [_, _], hn, _ | [_, _, _], hn, _ | [_, _, _, _], hn, _ | [_, _, _, _, _], hn, _ | [_, _, _, _, _, _], hn, _ | [_, _, _, _, _, _, _], hn, _ => simp at hn; omega
theorem quiet_kind (k : Int) (w : World) (m : Nat) :
    Calls Tryd.prog 28 #[.int .i64 k] (w.drewN m) fun e w'' => e = .returned (.bool (isK k)) ∧ ∃ k', w'' = w.drewN k' :=
  (kind_calls k (w.drewN m)).mono fun _ _ ⟨he, hw⟩ => ⟨he, m, hw.symm⟩
theorem below_drewN {B : Nat} {a w : World} (h : Below B a w) (n : Nat) : Below B a (w.drewN n) := ⟨h.os, h.tape, h.output, h.size, h.block⟩
theorem wrap_n8 (b : BitVec 8) : wrap64 (n8 b : Int) = (n8 b : Int) := by have := n8_lt b; unfold wrap64; omega
theorem wrap_nOf (bs : List (BitVec 8)) (b2 b3 : BitVec 8) (h : Fr.nOf bs = n8 b2 * 256 + n8 b3) : wrap64 (wrap64 (wrap64 (n8 b2 : Int) * 256) + wrap64 (n8 b3 : Int)) = (Fr.nOf bs : Int) := by
  have := n8_lt b2; have := n8_lt b3
  rw [wrap_n8, wrap_n8, h]; unfold wrap64; omega
theorem plain8 : Tryd.prog.plainKey 5 = true := by kernel_rfl
theorem cellsU8 : Tryd.prog.cellsOf 5 = 1 := by kernel_rfl
theorem n8_beq (a b : BitVec 8) : ((n8 a : Int) == (n8 b : Int)) = decide (a = b) := by
  by_cases h : a = b
  · subst h; simp
  · rw [decide_eq_false h, beq_eq_false_iff_ne]; intro hc; exact h (n8_inj (by omega))
theorem items8 (d : Nat) (xs ys : List (BitVec 8)) (w : World) : ∀ (m k : Nat), k + m = xs.length → k + m = ys.length →
    (Op.eqItems (d + 1) 5 1 (arr xs) (arr ys) (List.range' k m)).run Tryd.prog w = .ok (decide (xs.drop k = ys.drop k)) w
  | 0, k, h1, h2 => by
    rw [List.drop_eq_nil_of_le (by omega), List.drop_eq_nil_of_le (by omega)]
    simp [Op.eqItems]
  | m + 1, k, h1, h2 => by
    have hx : (arr xs)[k]? = some (V8 (xs[k]'(by omega))) := by simp [arr, List.getElem?_eq_getElem (show k < xs.length by omega)]
    have hy : (arr ys)[k]? = some (V8 (ys[k]'(by omega))) := by simp [arr, List.getElem?_eq_getElem (show k < ys.length by omega)]
    have ih := items8 d xs ys w m (k + 1) (by omega) (by omega)
    rw [List.range'_succ]
    simp only [Op.eqItems, Nat.mul_one, Sem.run_bind, run_part_plain w plain8 hx, run_part_plain w plain8 hy, Result.andThen_ok, run_equalIn_int w d 5 .u8 .u8 _ _ descU8, n8_beq]
    have e : (xs.drop k = ys.drop k) = (xs[k]'(by omega) = ys[k]'(by omega) ∧ xs.drop (k + 1) = ys.drop (k + 1)) := by
      rw [List.drop_eq_getElem_cons (show k < xs.length by omega), List.drop_eq_getElem_cons (show k < ys.length by omega), List.cons.injEq]
    simp only [e]
    by_cases hc : xs[k]'(by omega) = ys[k]'(by omega)
    · simp [hc, ih]
    · simp [hc]
theorem eq_arr {t n : Nat} (hu : Tryd.prog.underlying t = some (.array n 5)) (d : Nat) (xs ys : List (BitVec 8)) (hx : n = xs.length) (hy : n = ys.length) (w : World) :
    (Op.equalIn (d + 2) t (.agg (arr xs)) (.agg (arr ys))).run Tryd.prog w = .ok (decide (xs = ys)) w := by
  obtain ⟨i0, hi, _⟩ := info_parts infoU8
  rw [run_equalIn_array w (d + 1) _ _ hu hi, cellsU8, List.range_eq_range']
  exact items8 d xs ys w n 0 (by omega) (by omega)
theorem range_keep {w' w'' : World} {B blk off : Nat} {cs : List Value} (h : w'.rangeAt blk off cs) (hl : blk < B) (hb : Below B w' w'') : w''.rangeAt blk off cs := fun j v hv =>
  (hb.cell (p := ⟨blk, off + j, none⟩) hl).trans (h j v hv)
theorem rd_range {w : World} {B blk off : Nat} {vs : List Value} (h : Rd w B (some ⟨blk, off, none⟩) vs) (o n : Nat) : w.rangeAt blk (off + o) ((vs.drop o).take n) := fun j v hv => by
  have hv' : vs[o + j]? = some v := by
    rw [List.getElem?_take] at hv
    split at hv
    · rw [List.getElem?_drop] at hv; exact hv
    · cases hv
  obtain ⟨b', o', e', _, c'⟩ := h _ _ hv'
  injection e' with e'; injection e' with e1 e2; subst e1; subst e2
  rw [Nat.add_assoc]; exact c'
theorem ld8 (blk off : Nat) (T : List (BitVec 8)) (hT : T.length = 8) (w' : World) (h : w'.rangeAt blk off (T.map V8)) : (loadVar 59 ⟨blk, off, none⟩).run Tryd.prog w' = .ok (.agg (arr T)) w' :=
  run_loadVar_mid w' blk off _ _ _ h desc8 rfl (by rw [size8, List.length_map, hT])
theorem ld4 (blk off : Nat) (T : List (BitVec 8)) (hT : T.length = 4) (w' : World) (h : w'.rangeAt blk off (T.map V8)) : (loadVar 61 ⟨blk, off, none⟩).run Tryd.prog w' = .ok (.agg (arr T)) w' :=
  run_loadVar_mid w' blk off _ _ _ h desc4 rfl (by rw [size4, List.length_map, hT])
theorem c8_keep {W w' w'' : World} {blk off : Nat} {b0 b1 b2 b3 b4 b5 b6 b7 : BitVec 8} (h : (w'.cell? ⟨blk, off, none⟩ = some (V8 b0) ∧ w'.cell? ⟨blk, off + 1, none⟩ = some (V8 b1) ∧ w'.cell? ⟨blk, off + 2, none⟩ = some (V8 b2) ∧ w'.cell? ⟨blk, off + 3, none⟩ = some (V8 b3) ∧ w'.cell? ⟨blk, off + 4, none⟩ = some (V8 b4) ∧ w'.cell? ⟨blk, off + 5, none⟩ = some (V8 b5) ∧ w'.cell? ⟨blk, off + 6, none⟩ = some (V8 b6) ∧ w'.cell? ⟨blk, off + 7, none⟩ = some (V8 b7)) ∧ blk < W.heap.size ∧ Below W.heap.size W w') (hb : Below W.heap.size w' w'') :
    (w''.cell? ⟨blk, off, none⟩ = some (V8 b0) ∧ w''.cell? ⟨blk, off + 1, none⟩ = some (V8 b1) ∧ w''.cell? ⟨blk, off + 2, none⟩ = some (V8 b2) ∧ w''.cell? ⟨blk, off + 3, none⟩ = some (V8 b3) ∧ w''.cell? ⟨blk, off + 4, none⟩ = some (V8 b4) ∧ w''.cell? ⟨blk, off + 5, none⟩ = some (V8 b5) ∧ w''.cell? ⟨blk, off + 6, none⟩ = some (V8 b6) ∧ w''.cell? ⟨blk, off + 7, none⟩ = some (V8 b7)) ∧ blk < W.heap.size ∧ Below W.heap.size W w'' := by
  obtain ⟨⟨a0, a1, a2, a3, a4, a5, a6, a7⟩, hl, hbb⟩ := h
  have hk : ∀ o, w''.cell? ⟨blk, o, none⟩ = w'.cell? ⟨blk, o, none⟩ := fun o => hb.cell (p := ⟨blk, o, none⟩) hl
  exact ⟨⟨(hk _).trans a0, (hk _).trans a1, (hk _).trans a2, (hk _).trans a3, (hk _).trans a4, (hk _).trans a5, (hk _).trans a6, (hk _).trans a7⟩, hl, hbb.trans hb⟩
theorem c4_keep {W w' w'' : World} {blk off q : Nat} {t0 t1 t2 t3 : BitVec 8} (h : (w'.cell? ⟨blk, off + q, none⟩ = some (V8 t0) ∧ w'.cell? ⟨blk, off + q + 1, none⟩ = some (V8 t1) ∧ w'.cell? ⟨blk, off + q + 2, none⟩ = some (V8 t2) ∧ w'.cell? ⟨blk, off + q + 3, none⟩ = some (V8 t3)) ∧ blk < W.heap.size ∧ Below W.heap.size W w') (hb : Below W.heap.size w' w'') :
    (w''.cell? ⟨blk, off + q, none⟩ = some (V8 t0) ∧ w''.cell? ⟨blk, off + q + 1, none⟩ = some (V8 t1) ∧ w''.cell? ⟨blk, off + q + 2, none⟩ = some (V8 t2) ∧ w''.cell? ⟨blk, off + q + 3, none⟩ = some (V8 t3)) ∧ blk < W.heap.size ∧ Below W.heap.size W w'' := by
  obtain ⟨⟨a0, a1, a2, a3⟩, hl, hbb⟩ := h
  have hk : ∀ o, w''.cell? ⟨blk, o, none⟩ = w'.cell? ⟨blk, o, none⟩ := fun o => hb.cell (p := ⟨blk, o, none⟩) hl
  exact ⟨⟨(hk _).trans a0, (hk _).trans a1, (hk _).trans a2, (hk _).trans a3⟩, hl, hbb.trans hb⟩
theorem rd_sub {w : World} {B blk off : Nat} {vs : List Value} (h : Rd w B (some ⟨blk, off, none⟩) vs) (o n : Nat) : Rd w B (some ⟨blk, off + o, none⟩) ((vs.drop o).take n) := fun k v hv => by
  have hv' : vs[o + k]? = some v := by
    rw [List.getElem?_take] at hv
    split at hv
    · rw [List.getElem?_drop] at hv; exact hv
    · cases hv
  obtain ⟨b', o', e', hb, c'⟩ := h _ _ hv'
  injection e' with e'; injection e' with e1 e2; subst e1; subst e2
  exact ⟨_, _, rfl, hb, by rw [Nat.add_assoc]; exact c'⟩
theorem rd_sub8 {w : World} {B blk off : Nat} {bs : List (BitVec 8)} (h : Rd w B (some ⟨blk, off, none⟩) (bs.map V8)) (o n : Nat) : Rd w B (some ⟨blk, off + o, none⟩) (((bs.drop o).take n).map V8) := by
  have := rd_sub h o n
  rw [← List.map_drop, ← List.map_take] at this; exact this
theorem four_of {l : List (BitVec 8)} (h : l.length = 4) : ∃ t0 t1 t2 t3, l = [t0, t1, t2, t3] := by
  match l, h with
  | [t0, t1, t2, t3], _ => exact ⟨t0, t1, t2, t3, rfl⟩
theorem good_eq {bs : List (BitVec 8)} {n m : Nat} {b1 : BitVec 8} {T : List (BitVec 8)} (hn : n = bs.length) (h12 : ¬ n < 12) (tk : bs.take 8 = T) (ko : Fr.kOf bs = b1) (em : m = Fr.nOf bs) :
    Fr.good bs = (isK (n8 b1 : Int) && decide (m ≤ 1024) && decide (m + 12 ≤ n) && decide (T = Fr.head b1 m) && decide ((bs.drop (8 + m)).take 4 = Crc.be (Crc.sum (Fr.pOf bs)))) := by
  have hk : Fr.isKb (Fr.kOf bs) = isK (n8 b1 : Int) := by
    rw [ko]; unfold Fr.isKb isK n8
    rw [Bool.eq_iff_iff]; simp; omega
  unfold Fr.good
  rw [hk, ← em, ← hn, decide_eq_true (show 12 ≤ n by omega), Bool.true_and, Nat.add_comm 12 m]
  by_cases hl : m + 12 ≤ n
  · rw [decide_eq_true hl]
    have := Fr.parts (b := bs) (by omega)
    rw [← em, tk, ko] at this
    rw [Nat.add_comm 12 m, ] at this
    rw [ko]
    by_cases h1 : T = Fr.head b1 m
    · rw [decide_eq_true h1]
      by_cases h2 : (bs.drop (8 + m)).take 4 = Crc.be (Crc.sum (Fr.pOf bs))
      · rw [decide_eq_true h2, decide_eq_true (this.2 ⟨h1, h2⟩)]; simp
      · rw [decide_eq_false h2, decide_eq_false (fun h => h2 (this.1 h).2)]; simp
    · rw [decide_eq_false h1, decide_eq_false (fun h => h1 (this.1 h).1)]; simp
  · rw [decide_eq_false hl]; simp
set_option maxHeartbeats 4000000 in
theorem decode_calls (A : Option Addr) (n cap B : Nat) (bs : List (BitVec 8)) (w : World) (hn : n = bs.length) (hm : n ≤ maxLen) (hr : Rd w B A (bs.map V8)) (hB : B ≤ w.heap.size) (hcp : n ≤ cap) (ht : TabIn w) :
    Calls Tryd.prog 17 #[.slice A n cap] w (DecAns bs w) := by
  by_cases h : n < 12
  · exact decode_short A n cap bs w hn h
  obtain ⟨blk, off, b0, b1, b2, b3, b4, b5, b6, b7, h8⟩ := eight hn h hr hB
  obtain ⟨rfl, hlt, c0, c1, c2, c3, c4, c5, c6, c7, tk, no, ko⟩ := h8
  have hb : ¬ (n : Int) < 12 := by omega
  have h1 : (1 : Int) < (n : Int) := by omega
  have h2 : (2 : Int) < (n : Int) := by omega
  have h3 : (3 : Int) < (n : Int) := by omega
  unfold maxLen at hm
  have Hno := Lib.hid (wrap_nOf bs b2 b3 no)
  have Hr := Lib.hid hr; have Hn := Lib.hid hn; have Ht := Lib.hid ht; have Htk := Lib.hid tk; have Hko := Lib.hid ko
  have hmb : Fr.nOf bs ≤ 65535 := by have := n8_lt b2; have := n8_lt b3; omega
  clear hn hr tk ko no ht
  go_enter Tryd.func17, Tryd.ntmps17
  go_wp2_with fail
  go_quiet (fail)
  rw [Hno.out, wrap_n8]
  have hbw : Below w.heap.size w ((w.alloc (.cells #[.int .i64 0, .slice none 0 0] 24)).drewN nq) := below_drewN ((Below.refl _ _).alloc (Nat.le_refl _) _) nq
  have hg0 : ((w.alloc (.cells #[.int .i64 0, .slice none 0 0] 24)).drewN nq).heap[w.heap.size]? = some (.cells #[.int .i64 0, .slice none 0 0] 24 (0, 0)) := heap_alloc_new _ _
  have k0 := (hbw.cell (p := ⟨blk, off, none⟩) hlt).trans c0
  have k1 := (hbw.cell (p := ⟨blk, off + 1, none⟩) hlt).trans c1
  have k2 := (hbw.cell (p := ⟨blk, off + 2, none⟩) hlt).trans c2
  have k3 := (hbw.cell (p := ⟨blk, off + 3, none⟩) hlt).trans c3
  have k4 := (hbw.cell (p := ⟨blk, off + 4, none⟩) hlt).trans c4
  have k5 := (hbw.cell (p := ⟨blk, off + 5, none⟩) hlt).trans c5
  have k6 := (hbw.cell (p := ⟨blk, off + 6, none⟩) hlt).trans c6
  have k7 := (hbw.cell (p := ⟨blk, off + 7, none⟩) hlt).trans c7
  clear c0 c1 c2 c3 c4 c5 c6 c7
  generalize (w.alloc (.cells #[.int .i64 0, .slice none 0 0] 24)).drewN nq = W at *
  have hs0 := lt_heap hg0
  have Hbw := Lib.hid hbw; have Hg0 := Lib.hid hg0
  clear hbw hg0
  obtain ⟨m, em⟩ : ∃ m, m = Fr.nOf bs := ⟨_, rfl⟩
  rw [← em] at hmb ⊢
  have hwm : wrap64 (wrap64 (8 + (m : Int)) + 4) = (m : Int) + 12 := by unfold wrap64; omega
  have Hem := Lib.hid em; clear em
  go_wp2_with fail
  obtain ⟨hd8, Hd8⟩ : ∃ x, x = decide ([b0, b1, b2, b3, b4, b5, b6, b7] = Fr.head b1 m) := ⟨_, rfl⟩
  obtain ⟨bb, Hbb⟩ : ∃ x, x = (isK (n8 b1 : Int) && decide (m ≤ 1024) && decide (m + 12 ≤ n) && hd8) := ⟨_, rfl⟩
  have HD := Lib.hid Hd8
  have HB := Lib.hid Hbb
  have hw1 : IntKind.i64.wrap (8 + (m : Int)) = 8 + (m : Int) := IntWalk.i64_in _ (by omega)
  have hw2 : IntKind.i64.wrap (8 + (m : Int) + 4) = 8 + (m : Int) + 4 := IntWalk.i64_in _ (by omega)
  have hlw : blk < W.heap.size := by omega
  go_cut [51] (fun s51 w' => s51 = .bool (!bb) ∧ Below W.heap.size W w')
  case first =>
    by_cases hall : isK (n8 b1 : Int) = true ∧ m ≤ 1024 ∧ m + 12 ≤ n
    · obtain ⟨ha, hc, hd⟩ := hall
      have hbb : bb = hd8 := by rw [Hbb, ha, decide_eq_true hc, decide_eq_true hd]; simp
      have h4' : decide ((1024 : Int) < (m : Int)) = false := by rw [decide_eq_false_iff_not]; omega
      have h6 : (8 : Int) ≤ (cap : Int) := by omega
      have h5s : decide ((n : Int) < 8 + (m : Int) + 4) = false := by rw [decide_eq_false_iff_not]; omega
      have Htw : Hid (TabIn W) := Lib.hid (tabIn_of Ht.out Hbw.out)
      have hst : (W.cell? ⟨blk, off, none⟩ = some (V8 b0) ∧ W.cell? ⟨blk, off + 1, none⟩ = some (V8 b1) ∧ W.cell? ⟨blk, off + 2, none⟩ = some (V8 b2) ∧ W.cell? ⟨blk, off + 3, none⟩ = some (V8 b3) ∧ W.cell? ⟨blk, off + 4, none⟩ = some (V8 b4) ∧ W.cell? ⟨blk, off + 5, none⟩ = some (V8 b5) ∧ W.cell? ⟨blk, off + 6, none⟩ = some (V8 b6) ∧ W.cell? ⟨blk, off + 7, none⟩ = some (V8 b7)) ∧ blk < W.heap.size ∧ Below W.heap.size W W := ⟨⟨k0, k1, k2, k3, k4, k5, k6, k7⟩, hlw, Below.refl _ _⟩
      have hat : ∀ w, (Instr.arrayAt 59 (.slice (some ⟨blk, off, none⟩) 8 cap)).run Tryd.prog w = .ok (.pointer (some ⟨blk, off, none⟩)) w := fun w => run_arrayAt _ _ _ 8 _ 8 cap desc8 (Nat.le_refl _)
      have heq : ∀ w', (Op.equalIn 10000 59 (.agg #[V8 b0, V8 b1, V8 b2, V8 b3, V8 b4, V8 b5, V8 b6, V8 b7]) (.agg (arr (Fr.head b1 m)))).run Tryd.prog w' = .ok (decide ([b0, b1, b2, b3, b4, b5, b6, b7] = Fr.head b1 m)) w' :=
        fun w' => eq_arr desc8 9998 [b0, b1, b2, b3, b4, b5, b6, b7] (Fr.head b1 m) rfl rfl w'
      rw [← Hd8] at heq
      clear Hd8 Hbb
      go_region_held3 (fun w' => (w'.cell? ⟨blk, off, none⟩ = some (V8 b0) ∧ w'.cell? ⟨blk, off + 1, none⟩ = some (V8 b1) ∧ w'.cell? ⟨blk, off + 2, none⟩ = some (V8 b2) ∧ w'.cell? ⟨blk, off + 3, none⟩ = some (V8 b3) ∧ w'.cell? ⟨blk, off + 4, none⟩ = some (V8 b4) ∧ w'.cell? ⟨blk, off + 5, none⟩ = some (V8 b5) ∧ w'.cell? ⟨blk, off + 6, none⟩ = some (V8 b6) ∧ w'.cell? ⟨blk, off + 7, none⟩ = some (V8 b7)) ∧ blk < W.heap.size ∧ Below W.heap.size W w') ((rename (_ ∧ _) ∧ _ ∧ Below _ _ _ => hS; first | exact hS | exact c8_keep hS (Below.refl _ _).drew | exact c8_keep hS (Below.mono (by assumption) hS.2.2.size)))
        (first | (go_at_call 28; refine (kind_calls _ _).mono ?_; rintro e w' ⟨rfl, rfl⟩) | (go_at_call 29; rename (_ ∧ _) ∧ _ ∧ Below _ _ _ => hS; refine (head_calls b1 _ m _ rfl hmb (tabIn_of Htw.out hS.2.2)).mono ?_; rintro e w' ⟨rfl, hb⟩))
      all_goals (rename (_ ∧ _) ∧ _ ∧ Below _ _ _ => hS; have HS := Lib.hid hS; clear hS; go_wp2_with fail; go_meet; exact ⟨by rw [hbb], HS.out.2.2⟩)
    · have hbb : bb = false := by
        rw [Hbb]; simp only [Bool.and_eq_false_iff, decide_eq_false_iff_not]
        by_cases g1 : isK (n8 b1 : Int) = true
        · by_cases g2 : m ≤ 1024
          · exact Or.inl (Or.inr fun g3 => hall ⟨g1, g2, g3⟩)
          · exact Or.inl (Or.inl (Or.inr g2))
        · exact Or.inl (Or.inl (Or.inl (by simpa using g1)))
      clear Hd8 Hbb
      by_cases g1 : isK (n8 b1 : Int) = true
      · by_cases g2 : m ≤ 1024
        · have g3 : ¬ (m + 12 ≤ n) := fun g3 => hall ⟨g1, g2, g3⟩
          have h4' : decide ((1024 : Int) < (m : Int)) = false := by rw [decide_eq_false_iff_not]; omega
          have h5s : decide ((n : Int) < wrap64 (wrap64 (8 + (m : Int)) + 4)) = true := by rw [decide_eq_true_eq, hwm]; omega
          have h5t : decide ((n : Int) < 8 + (m : Int) + 4) = true := by rw [decide_eq_true_eq]; omega
          have h5u : decide ((n : Int) < wrap64 (8 + (m : Int) + 4)) = true := by rw [decide_eq_true_eq]; unfold wrap64; omega
          have h5v : decide ((n : Int) < (m : Int) + 12) = true := by rw [decide_eq_true_eq]; omega
          clear hall
          go_quiet ((go_at_call 28; exact quiet_kind _ _ _))
          go_wp2_with fail
          go_meet
          exact ⟨by rw [hbb]; rfl, below_drewN (Below.refl _ _) _⟩
        · have h4' : decide ((1024 : Int) < (m : Int)) = true := by rw [decide_eq_true_eq]; omega
          clear hall
          go_quiet ((go_at_call 28; exact quiet_kind _ _ _))
          go_wp2_with fail
          go_meet
          exact ⟨by rw [hbb]; rfl, below_drewN (Below.refl _ _) _⟩
      · have g1' : isK (n8 b1 : Int) = false := by simpa using g1
        clear hall g1
        go_quiet ((go_at_call 28; exact quiet_kind _ _ _))
        go_wp2_with fail
        go_meet
        exact ⟨by rw [hbb]; rfl, below_drewN (Below.refl _ _) _⟩
  case rest =>
    obtain ⟨rfl, hbc⟩ := hcut
    obtain ⟨wb, ewb⟩ : ∃ x, x = wc := ⟨_, rfl⟩
    subst ewb
    have Hbc := Lib.hid hbc; clear hbc
    clear k0 k1 k2 k3 k4 k5 k6 k7
    cases hbv : bb with
    | false =>
      subst hbv
      have hg := (Hbc.out.block _ hs0).trans Hg0.out
      have hrow : IsRow wb w.heap.size 24 2 := ⟨_, hg, rfl⟩
      have Hg := Lib.hid hg; clear hg
      go_wp2_with fail
      refine bodyPost_ret (results_cell3 rfl _ _ w.heap.size 24 _ (0, 0) rfl (setRow_heap _ _ _ _ _ _ Hg.out) aggFrame sizeFrame) rfl ?_
      refine ⟨below_setRow (Hbw.out.trans (Hbc.out.mono (by omega))) (Nat.le_refl _) _, Or.inl ⟨?_, rfl⟩⟩
      rw [good_eq Hn.out h Htk.out Hko.out Hem.out, ← HD.out, ← HB.out]; rfl
    | true =>
      subst hbv
      have hz := HB.out.symm
      simp only [Bool.and_eq_true, decide_eq_true_eq] at hz
      obtain ⟨⟨⟨z1, z2⟩, z3⟩, z4⟩ := hz
      have Hz1 := Lib.hid z1
      obtain ⟨q, eq⟩ : ∃ q, q = 8 + m := ⟨_, rfl⟩
      have hw1' : IntKind.i64.wrap (8 + (m : Int)) = (q : Int) := by rw [hw1]; omega
      obtain ⟨r, er⟩ : ∃ r, r = q + 4 := ⟨_, rfl⟩
      have hw2' : IntKind.i64.wrap ((q : Int) + 4) = (r : Int) := by rw [IntWalk.i64_in _ (by omega)]; omega
      have he8 : (8 : Int) + (m : Int) = (q : Int) := by omega
      have i1 : (8 : Int) ≤ (q : Int) := by omega
      have i2 : (q : Int) ≤ (cap : Int) := by omega
      have i3 : (r : Int) ≤ (cap : Int) := by omega
      have i4 : (q : Int) ≤ (r : Int) := by omega
      have hwq : IntKind.i64.wrap (q : Int) = (q : Int) := IntWalk.i64_in _ (by omega)
      have hmx : max (r : Int) 0 = (r : Int) := by omega
      have hq8 : q - 8 = m := by omega
      have hq4 : r - q = 4 := by omega
      have hqc : (cap = q) = False := by rw [eq_iff_iff]; constructor <;> intro hx <;> first | omega | cases hx
      have hqc' : (q = cap) = False := by rw [eq_iff_iff]; constructor <;> intro hx <;> first | omega | cases hx
      have Heq := Lib.hid eq
      have hr0 := Hr.out.below (Hbw.out.trans (Hbc.out.mono (show w.heap.size ≤ W.heap.size by omega))) hB
      have hpn : (Fr.pOf bs).length = m := by rw [Fr.pOf_length (by rw [← Hem.out, ← Hn.out]; omega)]; exact Hem.out.symm
      obtain ⟨t0, t1, t2, t3, ht4⟩ := four_of (l := (bs.drop q).take 4) (by rw [List.length_take, List.length_drop, ← Hn.out]; omega)
      have hrt := rd_sub8 hr0 q 4
      rw [ht4] at hrt
      have hcl : ∀ (i : Nat) (v : Value), ([t0, t1, t2, t3].map V8)[i]? = some v → wb.cell? ⟨blk, off + q + i, none⟩ = some v := fun i v hv => by
        obtain ⟨b', o', e', _, c'⟩ := hrt i v hv
        injection e' with e'; injection e' with e1 e2; subst e1; subst e2; exact c'
      have k0 := hcl 0 (V8 t0) rfl
      have k1 := hcl 1 (V8 t1) rfl
      have k2 := hcl 2 (V8 t2) rfl
      have k3 := hcl 3 (V8 t3) rfl
      rw [Nat.add_zero] at k0
      have Hrp := Lib.hid (show Rd wb B (some ⟨blk, off + 8, none⟩) ((Fr.pOf bs).map V8) from rd_sub8 hr0 8 (Fr.nOf bs))
      have hlc : blk < wb.heap.size := by have := Hbc.out.size; omega
      have hBc : B ≤ wb.heap.size := by have := Hbc.out.size; omega
      have Htc := Lib.hid (tabIn_of (tabIn_of Ht.out Hbw.out) Hbc.out)
      have hst : (wb.cell? ⟨blk, off + q, none⟩ = some (V8 t0) ∧ wb.cell? ⟨blk, off + q + 1, none⟩ = some (V8 t1) ∧ wb.cell? ⟨blk, off + q + 2, none⟩ = some (V8 t2) ∧ wb.cell? ⟨blk, off + q + 3, none⟩ = some (V8 t3)) ∧ blk < wb.heap.size ∧ Below wb.heap.size wb wb := ⟨⟨k0, k1, k2, k3⟩, hlc, Below.refl _ _⟩
      have hat : ∀ w, (Instr.arrayAt 61 (.slice (some ⟨blk, off + q, none⟩) 4 (cap - q))).run Tryd.prog w = .ok (.pointer (some ⟨blk, off + q, none⟩)) w := fun w => run_arrayAt _ _ _ 4 _ 4 _ desc4 (Nat.le_refl _)
      have heq : ∀ w', (Op.equalIn 10000 61 (.agg #[V8 t0, V8 t1, V8 t2, V8 t3]) (.agg (arr (Crc.be (Crc.sum (Fr.pOf bs)))))).run Tryd.prog w' = .ok (decide ([t0, t1, t2, t3] = Crc.be (Crc.sum (Fr.pOf bs)))) w' :=
        fun w' => eq_arr desc4 9998 [t0, t1, t2, t3] (Crc.be (Crc.sum (Fr.pOf bs))) rfl rfl w'
      obtain ⟨sb, Hsb⟩ : ∃ x, x = decide ([t0, t1, t2, t3] = Crc.be (Crc.sum (Fr.pOf bs))) := ⟨_, rfl⟩
      rw [← Hsb] at heq
      have HSB := Lib.hid Hsb; have Hpn := Lib.hid hpn; have Ht4 := Lib.hid ht4
      clear eq er hw1 hw2 z1 hwm Hbb HB Hsb hpn ht4 hrt hcl hr0 Hd8
      go_wp2_with fail
      go_cut [68] (fun s68 w' => s68 = .bool (!sb) ∧ Below wb.heap.size wb w')
      case first =>
        go_region_held3 (fun w' => (w'.cell? ⟨blk, off + q, none⟩ = some (V8 t0) ∧ w'.cell? ⟨blk, off + q + 1, none⟩ = some (V8 t1) ∧ w'.cell? ⟨blk, off + q + 2, none⟩ = some (V8 t2) ∧ w'.cell? ⟨blk, off + q + 3, none⟩ = some (V8 t3)) ∧ blk < wb.heap.size ∧ Below wb.heap.size wb w') ((rename (_ ∧ _) ∧ _ ∧ Below _ _ _ => hS; first | exact hS | exact c4_keep hS (Below.refl _ _).drew | exact c4_keep hS (Below.mono (by assumption) hS.2.2.size)))
          ((go_at_call 30; rename (_ ∧ _) ∧ _ ∧ Below _ _ _ => hS; refine (sum4_calls _ m _ B (Fr.pOf bs) _ (tabIn_of Htc.out hS.2.2) Hpn.out.symm (by unfold maxLen; omega) (Hrp.out.below hS.2.2 hBc) (Nat.le_trans hBc hS.2.2.size)).mono ?_; rintro e w' ⟨rfl, hb⟩))
        all_goals (rename (_ ∧ _) ∧ _ ∧ Below _ _ _ => hS; have HS := Lib.hid hS; clear hS; go_wp2_with fail; go_meet; exact ⟨rfl, HS.out.2.2⟩)
      case rest =>
        obtain ⟨rfl, hbd⟩ := hcut
        have Hbd := Lib.hid hbd; clear hbd
        clear k0 k1 k2 k3 hst hat heq
        have hsb := Hbc.out.size
        have hsd := Hbd.out.size
        have hg := (Hbd.out.block _ (show w.heap.size < wb.heap.size by omega)).trans ((Hbc.out.block _ hs0).trans Hg0.out)
        have Hwd := Lib.hid ((Hbw.out.trans (Hbc.out.mono (show w.heap.size ≤ W.heap.size by omega))).trans (Hbd.out.mono (show w.heap.size ≤ wb.heap.size by omega)))
        have hrow : IsRow wc w.heap.size 24 2 := ⟨_, hg, rfl⟩
        have Hg := Lib.hid hg; clear hg
        cases hsv : sb with
        | false =>
          subst hsv
          go_wp2_with fail
          refine bodyPost_ret (results_cell3 rfl _ _ w.heap.size 24 _ (0, 0) rfl (setRow_heap _ _ _ _ _ _ Hg.out) aggFrame sizeFrame) rfl ?_
          refine ⟨below_setRow Hwd.out (Nat.le_refl _) _, Or.inl ⟨?_, rfl⟩⟩
          rw [good_eq Hn.out h Htk.out Hko.out Hem.out, ← Heq.out, Ht4.out, ← HSB.out]; simp
        | true =>
          subst hsv
          have hmk := make_u8 m m (Nat.le_refl _) (by omega)
          have hrp := Hrp.out.below Hbd.out hBc
          have Hgood := Lib.hid (show Fr.good bs = true by
            rw [good_eq Hn.out h Htk.out Hko.out Hem.out, ← Heq.out, Ht4.out, ← HSB.out, ← HD.out, Hz1.out]; simp [z2, z3, z4])
          have hrs : ∃ Z : List Value, Z = (zeros8 m).toList := ⟨_, rfl⟩
          obtain ⟨Z, hZ⟩ := hrs
          have hZl : Z.length = m := by rw [hZ, Array.length_toList, zeros8_size]
          have hZa : Z.toArray = zeros8 m := by rw [hZ, Array.toArray_toList]
          have Hnew := Lib.hid (show (wc.alloc (.cells (zeros8 m) 5)).heap[wc.heap.size]? = some (.cells Z.toArray 5 (0, 0)) by rw [hZa]; exact heap_alloc_new _ _)
          have Hrn := Lib.hid (Rd.below (w' := wc.alloc (.cells (zeros8 m) 5)) hrp ((Below.refl wc.heap.size wc).alloc (Nat.le_refl _) _) (Nat.le_trans hBc hsd))
          clear hrp
          have hnl : ((Fr.pOf bs).map V8).length = m := by rw [List.length_map]; exact Hpn.out
          have Hnl := Lib.hid hnl; clear hnl hZ hZa
          have hpc : Cells1 #[.int .i64 (n8 b1 : Int), .slice (some ⟨wc.heap.size, 0, none⟩) m m] 2 := pair_cells _ _ _ _
          have hrm : (r : Int) = ((m + 12 : Nat) : Int) := by have := Heq.out; omega
          clear hrow
          go_wp2_with (
            with_reducible (refine wpList_copy_at (o := ⟨some 74, _, _, _, _, _⟩) (g := wc.heap.size) (cur := Z) (cs := (Fr.pOf bs).map V8) (off := 0) (t := 5) rfl (.tmp 72) (.tmp 73) rfl descU8s sizeU8 (dp := some ⟨wc.heap.size, 0, none⟩) (sp := some ⟨blk, off + 8, none⟩) (dLen := m) (dCap := m) (sLen := m) (sCap := cap - 8) (by simp [Act.eval, Act.put]) (by simp [Act.eval, Act.put]) Hnew.out (nat_min_l _ _ _ Hnl.out (Nat.le_refl _)) (rd_src Hrn.out) (by rw [Hnl.out, hZl]; omega) (v8_one _) ?_)
            intro w6 hg6 ho6
            have hx : splice Z 0 ((Fr.pOf bs).map V8) = (Fr.pOf bs).map V8 := by
              unfold splice
              rw [List.take_zero, List.nil_append, List.drop_eq_nil_of_le (by rw [Hnl.out, hZl]; omega), List.append_nil]
            rw [hx] at hg6
            have hb6 : Below w.heap.size w w6 := Hwd.out.trans (((Below.refl _ _).alloc (Hwd.out.size) _).trans (ho6.out.1.mono Hwd.out.size))
            have hgw : w6.heap[w.heap.size]? = some (.cells #[.int .i64 0, .slice none 0 0] 24 (0, 0)) :=
              (ho6.out.2 _ (by have := lt_heap Hg.out; omega)).trans ((Below.heap_alloc _ _ _ (lt_heap Hg.out)).trans Hg.out)
            have hne : wc.heap.size ≠ w.heap.size := by have := lt_heap Hg.out; omega
            have hrow6 : IsRow w6 w.heap.size 24 2 := ⟨_, hgw, rfl⟩
            have Hb6 := Lib.hid hb6; have Hgw := Lib.hid hgw
            clear hb6 hgw ho6 hx)
          refine bodyPost_ret (results_cell3 rfl _ _ w.heap.size 24 _ (0, 0) rfl (setRow_heap _ _ _ _ _ _ Hgw.out) aggFrame sizeFrame) rfl ?_
          have hgp : (w6.setRow w.heap.size #[.int .i64 (n8 b1 : Int), .slice (some ⟨wc.heap.size, 0, none⟩) m m]).heap[wc.heap.size]? = some (.cells ((Fr.pOf bs).map V8).toArray 5 (0, 0)) := by
            rw [setRow_other _ _ _ _ hne]; exact hg6.out
          refine ⟨below_setRow Hb6.out (Nat.le_refl _) _, Or.inr ⟨Hgood.out, some ⟨wc.heap.size, 0, none⟩, m, ?_, ?_⟩⟩
          · rw [← Hem.out, Hko.out]; rfl
          · rw [← Hem.out]
            refine ⟨by rw [Nat.mul_one]; exact Hnl.out, Or.inr ⟨_, _, _, rfl, Hwd.out.size, hgp, Nat.le_refl _, by unfold maxLen; omega, ?_, ?_⟩⟩
            · rw [Nat.mul_one, List.size_toArray]; exact Hnl.out
            · rw [Nat.mul_one]; exact List.take_of_length_le (by rw [Hnl.out]; omega)
end Go.Proofs.YtnbagbenpojpnaaDoor
