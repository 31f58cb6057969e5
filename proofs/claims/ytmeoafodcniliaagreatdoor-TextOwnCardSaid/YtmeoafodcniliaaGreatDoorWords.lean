/- Words for memory and for numbers of fixed width, used by the walks of this claim. -/
import Derived.WalkKit
import Derived.WalkLawsBesides
import Derived.Lib.Hide
import Derived.Deep.Draws
import Derived.Laws.CopyOwn
import Derived.Laws.AppendOwnNone
import Derived.Lib.Strings
namespace Go.Proofs.YtmeoafodcniliaaGreatDoor
open Go.RowKit
set_option linter.unusedSimpArgs false
set_option linter.unusedVariables false

/-- Slice at 'A' reads as the one-cell values vs, in blocks below B. -/
def Rd (w : World) (B : Nat) (A : Option Addr) (vs : List Value) : Prop :=
  ∀ k v, vs[k]? = some v → ∃ b off, A = some ⟨b, off, none⟩ ∧ b < B ∧ w.cell? ⟨b, off + k, none⟩ = some v

theorem Rd.nil (w : World) (B : Nat) (A : Option Addr) : Rd w B A [] := fun k v h => by simp at h
theorem Rd.keep {w w' : World} {B : Nat} {A : Option Addr} {vs : List Value} (h : Rd w B A vs)
    (hk : ∀ p : Addr, p.block < B → w'.cell? p = w.cell? p) : Rd w' B A vs := fun k v hv => by
  obtain ⟨b, off, e, hb, hc⟩ := h k v hv
  exact ⟨b, off, e, hb, (hk ⟨b, off + k, none⟩ hb).trans hc⟩
theorem Rd.below {w w' : World} {B B' : Nat} {A : Option Addr} {vs : List Value} (h : Rd w B A vs) (hb : Below B' w w') (hB : B ≤ B') : Rd w' B A vs :=
  h.keep fun _ hp => hb.cell (Nat.lt_of_lt_of_le hp hB)
theorem Rd.more {w : World} {B B' : Nat} {A : Option Addr} {vs : List Value} (h : Rd w B A vs) (hB : B ≤ B') : Rd w B' A vs := fun k v hv => by
  obtain ⟨b, off, e, hb, hc⟩ := h k v hv
  exact ⟨b, off, e, Nat.lt_of_lt_of_le hb hB, hc⟩
theorem Rd.at_ {w : World} {B : Nat} {A : Option Addr} {vs : List Value} (h : Rd w B A vs) {k : Nat} (hk : k < vs.length) :
    ∃ b off, A = some ⟨b, off, none⟩ ∧ b < B ∧ w.cell? ⟨b, off + k, none⟩ = some vs[k] := h k _ (List.getElem?_eq_getElem hk)

/-- A byte's and a register's number; behind names, so that the walk leaves the register's own term alone. -/
def n8 (b : BitVec 8) : Nat := b.toNat
def n32 (b : BitVec 32) : Nat := b.toNat
theorem n8_lt (b : BitVec 8) : n8 b < 256 := b.isLt
theorem n32_lt (b : BitVec 32) : n32 b < 4294967296 := b.isLt
theorem n8_inj {a b : BitVec 8} (h : n8 a = n8 b) : a = b := BitVec.eq_of_toNat_eq h
theorem n32_inj {a b : BitVec 32} (h : n32 a = n32 b) : a = b := BitVec.eq_of_toNat_eq h
abbrev V8 (b : BitVec 8) : Value := .int .u8 (n8 b : Int)
abbrev V32 (b : BitVec 32) : Value := .int .u32 (n32 b : Int)

section
theorem ofInt_toNat {n : Nat} (x : BitVec n) : BitVec.ofInt n (x.toNat : Int) = x := by
  rw [BitVec.ofInt_natCast, BitVec.ofNat_toNat]; simp
theorem wrap_u32_toNat (x : BitVec 32) : IntKind.u32.wrap (x.toNat : Int) = (x.toNat : Int) := by
  have := x.isLt; simp [IntKind.wrap, IntKind.bits, IntKind.signed]; omega
theorem wrap_u8_toNat (x : BitVec 8) : IntKind.u8.wrap (x.toNat : Int) = (x.toNat : Int) := by
  have := x.isLt; simp [IntKind.wrap, IntKind.bits, IntKind.signed]; omega
theorem bv32_xor (x y : BitVec 32) : bits .xor .u32 (x.toNat : Int) (y.toNat : Int) = ((x ^^^ y).toNat : Int) := by
  show IntKind.u32.wrap ((BitVec.ofInt 32 (x.toNat : Int) ^^^ BitVec.ofInt 32 (y.toNat : Int)).toNat : Int) = _
  rw [ofInt_toNat, ofInt_toNat, wrap_u32_toNat]
theorem bv32_and (x y : BitVec 32) : bits .and .u32 (x.toNat : Int) (y.toNat : Int) = ((x &&& y).toNat : Int) := by
  show IntKind.u32.wrap ((BitVec.ofInt 32 (x.toNat : Int) &&& BitVec.ofInt 32 (y.toNat : Int)).toNat : Int) = _
  rw [ofInt_toNat, ofInt_toNat, wrap_u32_toNat]
theorem bv32_not (x : BitVec 32) : bits .xor .u32 IntKind.u32.max (x.toNat : Int) = ((~~~ x).toNat : Int) := by
  show IntKind.u32.wrap ((BitVec.ofInt 32 (IntKind.u32.max) ^^^ BitVec.ofInt 32 (x.toNat : Int)).toNat : Int) = _
  rw [ofInt_toNat, show BitVec.ofInt 32 (IntKind.u32.max) = BitVec.allOnes 32 by decide, BitVec.allOnes_xor, wrap_u32_toNat]
theorem bv32_shl (x : BitVec 32) (yk : IntKind) (y : Int) (h : 0 ≤ y) : Op.shift .shl .u32 (x.toNat : Int) yk y = pure (.int .u32 ((x <<< y.toNat).toNat : Int)) := by
  rw [shift_shl_any _ _ _ _ h]
  congr 2
  have e : IntKind.u32.wrap ((x.toNat : Int) * 2 ^ min y.toNat IntKind.u32.bits) = ((x.toNat * 2 ^ min y.toNat 32 % 2 ^ 32 : Nat) : Int) := by
    simp only [IntKind.wrap, IntKind.bits, IntKind.signed, Int.natCast_emod, Int.natCast_mul, Int.natCast_pow]; rfl
  rw [e, BitVec.toNat_shiftLeft, Nat.shiftLeft_eq]
  rcases Nat.le_total y.toNat 32 with h1 | h1
  · rw [Nat.min_eq_left h1]
  · rw [Nat.min_eq_right h1]
    obtain ⟨d, hd⟩ := Nat.exists_eq_add_of_le h1
    rw [hd, Nat.pow_add, ← Nat.mul_assoc, Nat.mul_right_comm]
    simp
theorem bv32_shr (x : BitVec 32) (yk : IntKind) (y : Int) (h : 0 ≤ y) : Op.shift .shr .u32 (x.toNat : Int) yk y = pure (.int .u32 ((x >>> y.toNat).toNat : Int)) := by
  rw [shift_shr_any _ _ _ _ h]
  congr 2
  have e : (x.toNat : Int) / 2 ^ min y.toNat IntKind.u32.bits = ((x.toNat / 2 ^ min y.toNat 32 : Nat) : Int) := by
    simp [IntKind.bits]
  rw [e, BitVec.toNat_ushiftRight, Nat.shiftRight_eq_div_pow]
  rcases Nat.le_total y.toNat 32 with h1 | h1
  · rw [Nat.min_eq_left h1]
  · rw [Nat.min_eq_right h1, Nat.div_eq_of_lt x.isLt]
    rw [Nat.div_eq_of_lt (Nat.lt_of_lt_of_le x.isLt (Nat.pow_le_pow_right (by decide) h1))]
theorem bv8_shr (x : BitVec 8) (yk : IntKind) (y : Int) (h : 0 ≤ y) : Op.shift .shr .u8 (x.toNat : Int) yk y = pure (.int .u8 ((x >>> y.toNat).toNat : Int)) := by
  rw [shift_shr_any _ _ _ _ h]
  congr 2
  have e : (x.toNat : Int) / 2 ^ min y.toNat IntKind.u8.bits = ((x.toNat / 2 ^ min y.toNat 8 : Nat) : Int) := by
    simp [IntKind.bits]
  rw [e, BitVec.toNat_ushiftRight, Nat.shiftRight_eq_div_pow]
  rcases Nat.le_total y.toNat 8 with h1 | h1
  · rw [Nat.min_eq_left h1]
  · rw [Nat.min_eq_right h1, Nat.div_eq_of_lt x.isLt]
    rw [Nat.div_eq_of_lt (Nat.lt_of_lt_of_le x.isLt (Nat.pow_le_pow_right (by decide) h1))]
theorem bv8_xor (x y : BitVec 8) : bits .xor .u8 (x.toNat : Int) (y.toNat : Int) = ((x ^^^ y).toNat : Int) := by
  show IntKind.u8.wrap ((BitVec.ofInt 8 (x.toNat : Int) ^^^ BitVec.ofInt 8 (y.toNat : Int)).toNat : Int) = _
  rw [ofInt_toNat, ofInt_toNat, wrap_u8_toNat]
theorem bv8_and15 (x : BitVec 8) : bits .and .u8 (x.toNat : Int) 15 = ((x &&& 15#8).toNat : Int) := by
  show IntKind.u8.wrap ((BitVec.ofInt 8 (x.toNat : Int) &&& BitVec.ofInt 8 15).toNat : Int) = _
  rw [ofInt_toNat, show BitVec.ofInt 8 15 = 15#8 by decide, wrap_u8_toNat]
theorem bv_32to8 (x : BitVec 32) : IntKind.u8.wrap (x.toNat : Int) = ((x.setWidth 8).toNat : Int) := by
  rw [BitVec.toNat_setWidth]; simp [IntKind.wrap, IntKind.bits, IntKind.signed]
theorem bv_8to32 (x : BitVec 8) : IntKind.u32.wrap (x.toNat : Int) = ((x.setWidth 32).toNat : Int) := by
  rw [BitVec.toNat_setWidth]; simp [IntKind.wrap, IntKind.bits, IntKind.signed]

theorem u32_signed : IntKind.u32.signed = false := rfl
theorem u8_signed : IntKind.u8.signed = false := rfl
theorem n32_xor (x y : BitVec 32) : bits .xor .u32 (n32 x : Int) (n32 y : Int) = (n32 (x ^^^ y) : Int) := bv32_xor x y
theorem n32_and (x y : BitVec 32) : bits .and .u32 (n32 x : Int) (n32 y : Int) = (n32 (x &&& y) : Int) := bv32_and x y
theorem n32_and1 (x : BitVec 32) : bits .and .u32 (n32 x : Int) 1 = (n32 (x &&& 1#32) : Int) := bv32_and x 1#32
theorem n32_not (x : BitVec 32) : bits .xor .u32 IntKind.u32.max (n32 x : Int) = (n32 (~~~ x) : Int) := bv32_not x
theorem n32_shl (x : BitVec 32) (yk : IntKind) (y : Int) (h : 0 ≤ y) : Op.shift .shl .u32 (n32 x : Int) yk y = pure (.int .u32 (n32 (x <<< y.toNat) : Int)) := bv32_shl x yk y h
theorem n32_shr (x : BitVec 32) (yk : IntKind) (y : Int) (h : 0 ≤ y) : Op.shift .shr .u32 (n32 x : Int) yk y = pure (.int .u32 (n32 (x >>> y.toNat) : Int)) := bv32_shr x yk y h
theorem n8_shr (x : BitVec 8) (yk : IntKind) (y : Int) (h : 0 ≤ y) : Op.shift .shr .u8 (n8 x : Int) yk y = pure (.int .u8 (n8 (x >>> y.toNat) : Int)) := bv8_shr x yk y h
theorem n8_xor (x y : BitVec 8) : bits .xor .u8 (n8 x : Int) (n8 y : Int) = (n8 (x ^^^ y) : Int) := bv8_xor x y
theorem n8_and15 (x : BitVec 8) : bits .and .u8 (n8 x : Int) 15 = (n8 (x &&& 15#8) : Int) := bv8_and15 x
theorem n32_ne0 {x : BitVec 32} (h : x ≠ 0) : ((n32 x : Int) != 0) = true := by
  rw [bne_iff_ne]; intro h0; exact h (n32_inj (b := 0) (by show n32 x = 0; omega))
theorem n32_eq0 {x : BitVec 32} (h : x = 0) : ((n32 x : Int) != 0) = false := by subst h; rfl
theorem n32_wrap (x : BitVec 32) : IntKind.u32.wrap (n32 x : Int) = (n32 x : Int) := wrap_u32_toNat x
theorem n32_subAll (x : BitVec 32) : Op.intArith .sub .u32 4294967295 (n32 x : Int) = pure (.int .u32 (n32 (~~~ x) : Int)) := by
  have e : (4294967295 - (n32 x : Int)) = (n32 (~~~ x) : Int) := by
    have h1 : n32 (~~~ x) = 2 ^ 32 - 1 - n32 x := BitVec.toNat_not
    have := n32_lt x
    omega
  simp only [Op.intArith, e, n32_wrap]
theorem n32_mulPow (x : BitVec 32) (j : Nat) : IntKind.u32.wrap ((n32 x : Int) * 2 ^ j) = (n32 (x <<< j) : Int) := by
  have h1 : n32 (x <<< j) = n32 x * 2 ^ j % 2 ^ 32 := by unfold n32; rw [BitVec.toNat_shiftLeft, Nat.shiftLeft_eq]
  rw [IntKind.wrap_u32', h1]
  simp
theorem n32_mul2 (x : BitVec 32) : Op.intArith .mul .u32 (n32 x : Int) 2 = pure (.int .u32 (n32 (x <<< 1) : Int)) := by
  have := n32_mulPow x 1
  simp only [Op.intArith]; rw [← this]; rfl
theorem n32_mulTop (x : BitVec 32) : Op.intArith .mul .u32 (n32 x : Int) 16777216 = pure (.int .u32 (n32 (x <<< 24) : Int)) := by
  have := n32_mulPow x 24
  simp only [Op.intArith]; rw [← this]; rfl
theorem n32_xorPl (x : BitVec 32) : bits .xor .u32 (n32 x : Int) 79764919 = (n32 (x ^^^ 79764919#32) : Int) := bv32_xor x 79764919#32
theorem n32_mod2 (x : BitVec 32) (i : Nat) : ((n32 (x >>> i) : Int) % 2) = if x.getLsbD i = true then 1 else 0 := by
  unfold n32
  have h : ((x >>> i).toNat : Int) % 2 = (((x >>> i).toNat % 2 : Nat) : Int) := by omega
  rw [h, BitVec.toNat_ushiftRight, BitVec.getLsbD, Nat.testBit]
  rw [Nat.one_and_eq_mod_two]
  have : x.toNat >>> i % 2 < 2 := Nat.mod_lt _ (by decide)
  rcases hb : x.toNat >>> i % 2 with _ | _ | n
  · simp
  · simp
  · omega
theorem n32_tmod2 (x : BitVec 32) (i : Nat) : ((n32 x : Int) / 2 ^ i).tmod 2 = if x.getLsbD i = true then 1 else 0 := by
  have h := n32_mod2 x i
  have e : (n32 (x >>> i) : Int) = (n32 x : Int) / 2 ^ i := by
    unfold n32; rw [BitVec.toNat_ushiftRight, Nat.shiftRight_eq_div_pow]; simp
  rw [e] at h
  have h0 : 0 ≤ (n32 x : Int) / 2 ^ i := by rw [← e]; omega
  rw [Int.tmod_eq_emod_of_nonneg h0]; exact h
theorem n32to8 (x : BitVec 32) : IntKind.u8.wrap (n32 x : Int) = (n8 (x.setWidth 8) : Int) := bv_32to8 x
theorem n8to32 (x : BitVec 8) : IntKind.u32.wrap (n8 x : Int) = (n32 (x.setWidth 32) : Int) := bv_8to32 x
end
/-- A block that holds one array or struct; what it holds. -/
def IsRow (w : World) (g t n : Nat) : Prop := ∃ cs, w.heap[g]? = some (.cells cs t (0, 0)) ∧ cs.size = n
def rowOf (w : World) (g : Nat) : Array Value := match w.heap[g]? with | some (.cells cs _ _) => cs | _ => #[]
theorem rowOf_eq {w : World} {g : Nat} {cs : Array Value} {t : TypeId} {fr : Nat × Nat} (h : w.heap[g]? = some (.cells cs t fr)) : rowOf w g = cs := by simp [rowOf, h]
theorem isRow_alloc_new (w : World) (cs : Array Value) (t n : Nat) : IsRow (w.alloc (.cells cs t)) w.heap.size t n = (cs.size = n) := propext ⟨fun ⟨c, e, h⟩ => by rw [heap_alloc_new] at e; simp at e; rw [e]; exact h, fun h => ⟨cs, heap_alloc_new w _, h⟩⟩
theorem i64_and1 (x : Int) (h0 : 0 ≤ x) (h1 : x ≤ 9223372036854775807) : bits .and .i64 x 1 = x % 2 := by
  obtain ⟨X, rfl⟩ := Int.eq_ofNat_of_zero_le h0
  show IntKind.i64.wrap ((BitVec.ofInt 64 (X : Int) &&& BitVec.ofInt 64 1).toNat : Int) = _
  have e1 : (BitVec.ofInt 64 (X : Int)).toNat = X := by
    rw [BitVec.ofInt_natCast, BitVec.toNat_ofNat]; exact Nat.mod_eq_of_lt (by omega)
  have e2 : (BitVec.ofInt 64 1).toNat = 1 := by decide
  rw [BitVec.toNat_and, e1, e2, Nat.and_one_is_mod]
  rw [IntWalk.i64_in _ (by omega)]
  omega
def rowAt (w : World) : Value → Array Value
  | .pointer (some ⟨g, 0, none⟩) => rowOf w g
  | _ => #[]
def IsRowAt (w : World) (v : Value) (t n : Nat) : Prop := ∃ g, v = .pointer (some ⟨g, 0, none⟩) ∧ IsRow w g t n
theorem isRowAt_ptr {w : World} {g t n : Nat} : IsRowAt w (.pointer (some ⟨g, 0, none⟩)) t n = IsRow w g t n := propext ⟨fun ⟨g', e, h⟩ => by simp at e; rw [e]; exact h, fun h => ⟨g, rfl, h⟩⟩
theorem rowAt_ptr (w : World) (g : Nat) : rowAt w (.pointer (some ⟨g, 0, none⟩)) = rowOf w g := rfl
theorem heap3_a (w : World) (A B C : Obj) : (((w.alloc A).alloc B).alloc C).heap[w.heap.size]? = some A := by
  rw [Below.heap_alloc _ _ _ (by simp; omega), Below.heap_alloc _ _ _ (by simp), heap_alloc_new]
theorem heap3_b (w : World) (A B C : Obj) : (((w.alloc A).alloc B).alloc C).heap[w.heap.size + 1]? = some B := by
  rw [Below.heap_alloc _ _ _ (by simp), ← World.size_alloc w A, heap_alloc_new]
theorem heap3_c (w : World) (A B C : Obj) : (((w.alloc A).alloc B).alloc C).heap[w.heap.size + 1 + 1]? = some C := by
  have := heap_alloc_new ((w.alloc A).alloc B) C
  simpa using this
def blkOf : Value → Nat
  | .pointer (some a) => a.block
  | _ => 0
theorem blkOf_ptr (a : Addr) : blkOf (.pointer (some a)) = a.block := rfl
def aggOf : Value → Array Value
  | .agg cs => cs
  | _ => #[]
theorem aggOf_agg (cs : Array Value) : aggOf (.agg cs) = cs := rfl
/-- An aggregate of n plain cells. -/
def Cells1 (cs : Array Value) (n : Nat) : Prop := cs.size = n ∧ ∀ v ∈ cs.toList, v.oneCell' = true
def IsAggV (v : Value) (n : Nat) : Prop := ∃ cs, v = .agg cs ∧ Cells1 cs n
theorem isAggV_agg {cs : Array Value} {n : Nat} : IsAggV (.agg cs) n = Cells1 cs n := propext ⟨fun ⟨c, e, h⟩ => by simp at e; rw [e]; exact h, fun h => ⟨cs, rfl, h⟩⟩
def aggDesc : TypeDesc → Bool
  | .struct _ | .array _ _ => true
  | _ => false
section
variable {P : Program} {dst : Option Tmp} {ty ty' : TypeId} {n : Nat} {pos : String} {af : Array Edge} {gd : Option (Nat × Bool)} {x y : Operand} {a : Act} {w : World} {K : Act → World → Prop} {Q : Exit → Act → World → Prop}
theorem op_load_row {d : TypeDesc} (hu : P.underlying ty = some d) (hd : aggDesc d = true) (hi : (P.info? ty).map (·.size) = some n)
    (h : IsRowAt w (a.eval x) ty n) : Oper.wp P ⟨dst, .load ty x, ty', pos, af, gd⟩ a w K Q = K (a.put dst (.agg (rowAt w (a.eval x)))) w := by
  obtain ⟨g, hv, cs, h, hs⟩ := h
  have := run_loadVar_row (P := P) w g _ ty cs (0, 0) _ h hu (by cases d <;> simp_all [aggDesc]) (by rw [hi, hs])
  rw [hv, rowAt_ptr, rowOf_eq h]
  unfold Oper.wp execOp
  simp only [hv, Instr.loadAt, Instr.sureAddr, Sem.run_bind, Sem.run_pure, Result.andThen_ok, this]
  rfl
/-- The same inside a region that draws its order: the operation is known by its form. -/
def isLoadOf (ty : TypeId) (o : Oper) : Bool := match o.op with | .load t _ => t == ty && o.guard.isNone | _ => false
def loadArg (o : Oper) : Operand := match o.op with | .load _ x => x | _ => .tmp 0
theorem step_load_row {d : TypeDesc} {o : Oper} {ops : Array Oper} {E : Prop} (hu : P.underlying ty = some d) (hd : aggDesc d = true) (hi : (P.info? ty).map (·.size) = some n)
    (hl : isLoadOf ty o = true) (h : IsRowAt w (a.eval (loadArg o)) ty n) : (if Region.wanted o (yielded ops a.tmps) = true then Oper.wp P o a w K Q else E) = K (a.put o.dst (.agg (rowAt w (a.eval (loadArg o))))) w := by
  obtain ⟨dst', op, ty', pos', af', gd'⟩ := o
  cases op <;> simp [isLoadOf] at hl
  obtain ⟨rfl, rfl⟩ := hl
  rw [if_pos (by simp [Region.wanted])]
  exact op_load_row hu hd hi h
theorem op_store_row (hi : (P.info? ty).map (·.size) = some n)
    (h : IsRowAt w (a.eval x) ty n) (hy : IsAggV (a.eval y) n) :
    Oper.wp P ⟨dst, .store ty x y, ty', pos, af, gd⟩ a w K Q = K (a.put dst undef) (w.setRow (blkOf (a.eval x)) (aggOf (a.eval y))) := by
  obtain ⟨g, hv, cs, h, hs⟩ := h
  obtain ⟨cs', hv', hs', h1⟩ := hy
  have hrun := run_storeCells_from (P := P) g ty cs'.toList 0 cs w h (by simp; omega) h1
  obtain ⟨i, hi1, hi2⟩ := Option.map_eq_some_iff.1 hi
  rw [hv, hv', blkOf_ptr, aggOf_agg]
  have hsv : (storeVar ty ⟨g, 0, none⟩ (.agg cs')).run P w = .ok () (w.setRow g cs') := by
    simp [storeVar, sizeOf, typeInfo, hi1, hi2, Value.cells, hs', hrun]
  unfold Oper.wp execOp
  simp only [hv, hv', Instr.storeAt, Instr.sureAddr, Sem.run_bind, Sem.run_pure, Result.andThen_ok, hsv]
  rfl
end

theorem bcell {W w1 : World} {B : Nat} (hb : Below B W w1) : (∀ b o, b < B → w1.cell? ⟨b, o, none⟩ = W.cell? ⟨b, o, none⟩) ∧ (∀ b o, b < B → w1.frozen? ⟨b, o, none⟩ = W.frozen? ⟨b, o, none⟩) :=
  ⟨fun b o h => hb.cell (p := ⟨b, o, none⟩) h, fun b o h => hb.frozen (p := ⟨b, o, none⟩) h⟩
theorem cell_heap {w : World} {g : Nat} {cs : Array Value} {t : TypeId} {fr : Nat × Nat} (h : w.heap[g]? = some (.cells cs t fr)) (o : Nat) : w.cell? ⟨g, o, none⟩ = cs[o]? := by simp [World.cell?, h]
theorem frozen_heap {w : World} {g : Nat} {cs : Array Value} {t : TypeId} (h : w.heap[g]? = some (.cells cs t (0, 0))) (o : Nat) : w.frozen? ⟨g, o, none⟩ = false := by simp [World.frozen?, h]
theorem lt_heap {w : World} {g : Nat} {o : Obj} (h : w.heap[g]? = some o) : g < w.heap.size := by
  rcases Nat.lt_or_ge g w.heap.size with h1 | h1
  · exact h1
  · rw [Array.getElem?_eq_none h1] at h; cases h
theorem heap_set {w : World} {g : Nat} {cs : Array Value} {t : TypeId} {fr : Nat × Nat} (h : w.heap[g]? = some (.cells cs t fr)) (o : Nat) (v : Value) : (w.setCell ⟨g, o, none⟩ v).heap[g]? = some (.cells (cs.setIfInBounds o v) t fr) := by
  simp [World.setCell, Array.getElem?_modify, h]

/-- An owned row of one-cell elements, read as a slice. -/
theorem own_form {w : World} {base : Nat} {t : TypeId} {v : Value} {n : Nat} {xs : List Value} (h : w.ownsRow base t 1 v n xs) :
    ∃ A cap, v = .slice A n cap ∧ n ≤ cap ∧ cap ≤ maxLen ∧ xs.length = n := by
  obtain ⟨h1, h2⟩ := h
  rcases h2 with ⟨rfl, rfl⟩ | ⟨g, cap, cur, rfl, _, _, h5, h6, _⟩
  · exact ⟨none, 0, rfl, Nat.le_refl _, by unfold maxLen; omega, by omega⟩
  · exact ⟨some ⟨g, 0, none⟩, cap, rfl, h5, h6, by omega⟩
theorem own_rd {w : World} {base : Nat} {t : TypeId} {A : Option Addr} {n cap : Nat} {xs : List Value} (h : w.ownsRow base t 1 (.slice A n cap) n xs) : Rd w w.heap.size A xs := by
  intro k v hv
  obtain ⟨h1, h2⟩ := h
  have hk : k < xs.length := (List.getElem?_eq_some_iff.1 hv).1
  rcases h2 with ⟨h2, rfl⟩ | ⟨g, cap', cur, h2, _, h4, h5, h6, h7, h8⟩
  · omega
  · injection h2 with e1 e2 e3
    subst e1
    refine ⟨g, 0, rfl, lt_heap h4, ?_⟩
    rw [cell_heap h4, Nat.zero_add, ← hv, ← h8]
    simp
    rw [List.getElem?_take, if_pos (by omega)]
    simp
theorem own_nil {w : World} {base : Nat} {t : TypeId} {A : Option Addr} {n cap : Nat} {xs : List Value} (h : w.ownsRow base t 1 (.slice A n cap) n xs) : A = none → n = 0 ∧ cap = 0 := by
  rintro rfl
  rcases h.2 with ⟨h2, rfl⟩ | ⟨g, cap', cur, h2, _⟩
  · injection h2 with _ _ h2; exact ⟨rfl, h2⟩
  · injection h2 with h2; cases h2
theorem own_below {w w' : World} {base : Nat} {t : TypeId} {v : Value} {n : Nat} {xs : List Value} {B : Nat} (h : w.ownsRow base t 1 v n xs) (hb : Below B w w') (hB : w.heap.size ≤ B) : w'.ownsRow base t 1 v n xs := by
  obtain ⟨h1, h2⟩ := h
  refine ⟨h1, ?_⟩
  rcases h2 with h2 | ⟨g, cap, cur, h2, h3, h4, h5⟩
  · exact .inl h2
  · exact .inr ⟨g, cap, cur, h2, h3, (hb.block g (Nat.lt_of_lt_of_le (lt_heap h4) hB)).trans h4, h5⟩
theorem own_base {w : World} {base base' : Nat} {t : TypeId} {v : Value} {n : Nat} {xs : List Value} (h : w.ownsRow base t 1 v n xs) (hb : base' ≤ base) : w.ownsRow base' t 1 v n xs := by
  obtain ⟨h1, h2⟩ := h
  refine ⟨h1, ?_⟩
  rcases h2 with h2 | ⟨g, cap, cur, h2, h3, h4, h5⟩
  · exact .inl h2
  · exact .inr ⟨g, cap, cur, h2, by omega, h4, h5⟩
theorem own_lit (w : World) (base : Nat) (t : TypeId) (cs : Array Value) (n : Nat) (hb : base ≤ w.heap.size) (hn : cs.size = n) (hm : n ≤ maxLen) :
    (w.alloc (.cells cs t)).ownsRow base t 1 (.slice (some ⟨w.heap.size, 0, none⟩) n n) n cs.toList :=
  ⟨by simp [hn], .inr ⟨w.heap.size, n, cs, rfl, hb, heap_alloc_new w _, Nat.le_refl _, hm, by omega, by rw [List.take_of_length_le]; simp; omega⟩⟩
/-- What a slice of a source of an append asks, out of 'Rd'. -/
theorem rd_news {w : World} {B : Nat} {A : Option Addr} {vs : List Value} (h : Rd w B A vs) (ad : Addr) (ha : A = some ad) : ∀ j u, vs[j]? = some u → w.cell? (ad.add j) = some u := by
  intro j u hu
  obtain ⟨b, off, e, _, hc⟩ := h j u hu
  rw [ha] at e; injection e with e; subst e
  rw [Addr.add_lit]; exact hc
theorem v8_one (bs : List (BitVec 8)) : ∀ u ∈ bs.map V8, u.oneCell' = true := by
  intro u hu; obtain ⟨b, _, rfl⟩ := List.mem_map.1 hu; rfl
/-! bytes as a string -/
def strOf (bs : List (BitVec 8)) : ByteArray := ⟨(bs.map UInt8.ofBitVec).toArray⟩
theorem strOf_inj {a b : List (BitVec 8)} (h : strOf a = strOf b) : a = b := by
  have h1 : (a.map UInt8.ofBitVec).toArray = (b.map UInt8.ofBitVec).toArray := congrArg ByteArray.data h
  have h2 : a.map UInt8.ofBitVec = b.map UInt8.ofBitVec := by simpa using h1
  have h3 := congrArg (List.map UInt8.toBitVec) h2
  simpa [Function.comp_def] using h3
theorem strOf_size (bs : List (BitVec 8)) : (strOf bs).size = bs.length := by simp [strOf, ByteArray.size]
theorem foldl_push (bs : List (BitVec 8)) : ∀ s : ByteArray, (bs.map fun b => (n8 b : Int)).foldl (fun r n => r.push (UInt8.ofNat n.toNat)) s = ⟨s.data ++ (bs.map UInt8.ofBitVec).toArray⟩ := by
  induction bs with
  | nil => intro s; simp
  | cons b bs ih =>
    intro s
    rw [List.map_cons, List.foldl_cons, ih]
    have : UInt8.ofNat ((n8 b : Int)).toNat = UInt8.ofBitVec b := by
      rw [Int.toNat_natCast]; unfold n8
      apply UInt8.toBitVec_inj.1
      simp
    rw [this]
    congr 1
    simp [ByteArray.push]
theorem run_bytes_str {P : Program} {w : World} {B : Nat} {A : Option Addr} {n cap : Nat} {bs : List (BitVec 8)} (src dst e : TypeId) (hs : P.underlying src = some (.slice e)) (he : P.underlying e = some (.int .u8)) (hd : P.underlying dst = some .string)
    (hn : n = bs.length) (hnil : A = none → n = 0) (hr : Rd w B A (bs.map V8)) : (convert src dst (.slice A n cap)).run P w = .ok (.string (strOf bs)) w := by
  rw [run_convert_bytes_string w src dst e A n cap hs he hd]
  rcases A with _ | ad
  · have : bs = [] := List.eq_nil_of_length_eq_zero (by have := hnil rfl; omega)
    subst this
    simp [Conv.bytesToString]; rfl
  · have hl := run_loadCells_list (P := P) (w := w) ad (bs.map V8) (rd_news hr ad rfl)
    rw [List.length_map, ← hn] at hl
    have := run_bytesToString (P := P) w ad n cap (bs.map fun b => (n8 b : Int)) (by rw [hl]; congr 2; simp)
    rw [this, foldl_push]
    congr 3
    simp [strOf]
theorem strOf_toList (bs : List (BitVec 8)) : (strOf bs).toList = bs.map UInt8.ofBitVec := by
  rw [Lib.toList_data]; rfl
theorem str_eq (a b : List (BitVec 8)) : ((strOf a).toList == (strOf b).toList) = decide (a = b) := by
  rw [strOf_toList, strOf_toList]
  by_cases h : a = b
  · subst h; simp
  · have : a.map UInt8.ofBitVec ≠ b.map UInt8.ofBitVec := fun h2 => h (by
      have h3 := congrArg (List.map UInt8.toBitVec) h2
      simpa [Function.comp_def] using h3)
    rw [decide_eq_false h, beq_eq_false_iff_ne]; exact this
/-- 'append(x, y...)', x of the call's own, y any slice that reads as a list. -/
theorem wpList_append_rd {P : Program} {w : World} {ops : Array Oper} {rest : List Oper} {o : Oper} {a : Act} {Q : Exit → Act → World → Prop} (hgd : o.guard = none) (s x : Operand) (t : TypeId)
    (ho : o.op = .call { callee := .builtin .append, args := #[s, x], argTypes := #[t, t] })
    (base : Nat) (e : TypeId) (i : TypeInfo) (z : Value) (bytes : Nat) (ht : P.underlying t = some (.slice e)) (hi : P.info? e = some i) (hz : i.zero = some z)
    (hsize : i.size = 1) (hby : i.bytes = bytes) (hzs : z.cells.size = 1)
    (v : Value) (n : Nat) (xs : List Value) (hs : a.eval s = v) (hown : w.ownsRow base e 1 v n xs)
    (B : Nat) (A : Option Addr) (m c : Nat) (news : List Value) (hx : a.eval x = .slice A m c) (hm : m = news.length) (hnil : A = none → m = 0 ∧ c = 0) (hr : Rd w B A news) (h1 : ∀ u ∈ news, u.oneCell' = true)
    (h63 : n + m ≤ maxLen) (hbytes : (n + m) * bytes ≤ 140737488355328) (hbase : base ≤ w.heap.size)
    (h : ∀ v' w', w'.ownsRow base e 1 v' (n + m) (xs ++ news) → w.grownBy w' v.ownBlock → wpList P ops Q rest (a.put o.dst v') w') : wpList P ops Q (o :: rest) a w := by
  rcases A with _ | ad
  · obtain ⟨rfl, rfl⟩ := hnil rfl
    have hn : news = [] := List.eq_nil_of_length_eq_zero hm.symm
    subst hn
    refine wpList_append_own_none hgd s x t ho base e i 1 ht hi v n xs hs hown hx ?_
    exact h v w (by simpa using hown) (World.grownBy.refl w _)
  · exact wpList_append_own w hgd s x t ho base e i z 1 bytes ht hi hz hsize hby hzs (by decide) v n xs hs hown ad m c news hx (by omega) (rd_news hr ad rfl) h1 h63 hbytes hbase
      fun v' w' h2 h3 _ => h v' w' h2 h3
theorem below_own {B : Nat} {w0 w w' : World} {base : Nat} {t : TypeId} {v : Value} {n : Nat} {xs : List Value} (hb : Below B w0 w) (hown : w.ownsRow base t 1 v n xs) (hg : w.grownBy w' v.ownBlock) (hB : B ≤ base) (hs : base ≤ w.heap.size) : Below B w0 w' :=
  hb.grown hg (by omega) fun k hk => by have := (hown.lt k hk).1; omega
/-- What stood below the row's own blocks reads as it did behind an append to that row. -/
theorem grown_below {w w' : World} {base : Nat} {t : TypeId} {v : Value} {n : Nat} {xs : List Value} (hown : w.ownsRow base t 1 v n xs) (hg : w.grownBy w' v.ownBlock) (hs : base ≤ w.heap.size) : Below base w w' :=
  below_own (Below.refl _ _) hown hg (Nat.le_refl _) hs
end Go.Proofs.YtmeoafodcniliaaGreatDoor
