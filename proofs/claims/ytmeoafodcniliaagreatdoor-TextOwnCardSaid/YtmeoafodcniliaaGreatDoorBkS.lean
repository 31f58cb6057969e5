/- what the book's methods do with the lists of a kind: told as propositions -/
import Derived.Test.YtmeoafodcniliaaGreatDoorBkG
namespace Go.Proofs.YtmeoafodcniliaaGreatDoor
open Go.RowKit
set_option linter.unusedSimpArgs false
set_option linter.unusedVariables false
namespace Bk
def uF : Nat → FuncId
  | 0 => 106
  | 1 => 107
  | 2 => 108
  | 3 => 109
  | 4 => 110
  | 5 => 111
  | 6 => 112
  | 7 => 113
  | 8 => 114
  | 9 => 115
  | 10 => 116
  | 11 => 117
  | 12 => 118
  | 13 => 119
  | 14 => 120
  | 15 => 121
  | _ => 122
def wF : Nat → FuncId
  | 0 => 123
  | 1 => 124
  | 2 => 125
  | 3 => 126
  | 4 => 127
  | 5 => 128
  | 6 => 129
  | 7 => 130
  | 8 => 131
  | 9 => 132
  | 10 => 133
  | 11 => 134
  | 12 => 135
  | 13 => 136
  | 14 => 137
  | 15 => 138
  | _ => 139
def hF : Nat → FuncId
  | 0 => 140
  | 1 => 141
  | 2 => 142
  | 3 => 143
  | 4 => 144
  | 5 => 145
  | 6 => 146
  | 7 => 147
  | 8 => 148
  | 9 => 149
  | 10 => 150
  | 11 => 151
  | 12 => 152
  | 13 => 153
  | 14 => 154
  | 15 => 155
  | _ => 156
def gF : Nat → FuncId
  | 0 => 157
  | 1 => 158
  | 2 => 159
  | 3 => 160
  | 4 => 161
  | 5 => 162
  | 6 => 163
  | 7 => 164
  | 8 => 165
  | 9 => 166
  | 10 => 167
  | 11 => 168
  | 12 => 169
  | 13 => 170
  | 14 => 171
  | 15 => 172
  | _ => 173
/-- A header in the book: the field, the row of lists. -/
def Hd (w : World) (kb f : Nat) (T : TypeId) (vs : List Value) (hv : Value) : Prop := w.cell? ⟨kb, f, none⟩ = some hv ∧ w.ownsRow 0 T 1 hv vs.length vs
section
variable {w w' : World} {kb f : Nat} {T : TypeId} {vs : List Value} {hv : Value} {F : Nat → Prop} {b p : Int}
theorem Hd.kept (h : Hd w kb f T vs hv) (hb : BkC w kb b p) (hk : Kept F w w') (hn : ¬ F kb) (h1 : ∀ g, hv.ownBlock = some g → ¬ F g) : Hd w' kb f T vs hv :=
  ⟨(hk.cell hb.lt hn).trans h.1, own_kept h.2 hk h1⟩
theorem Hd.below (h : Hd w kb f T vs hv) (hb : BkC w kb b p) (hk : Below w.heap.size w w') : Hd w' kb f T vs hv := h.kept (F := fun _ => False) hb (Kept.of_below hk) (fun h => h) (fun _ _ h => h)
/-- One list more. -/
theorem Hd.push {W5 w2 : World} {l hv' : Value} (hb : BkC w kb b p) (h : Hd w kb f T vs hv) (hT : T ≠ 44) (hf : 2 ≤ f) (hf2 : f < 53) (hal : Below w.heap.size w W5) (hK2 : Kept (fun k => hv.ownBlock = some k) W5 w2) (hown : w2.ownsRow 0 T 1 hv' (vs.length + 1) (vs ++ [l]))
    (hblk : ∀ x, hv'.ownBlock = some x → hv.ownBlock = some x ∨ W5.heap.size ≤ x) :
    Hd (w2.setCell ⟨kb, f, none⟩ hv') kb f T (vs ++ [l]) hv' ∧ BkC (w2.setCell ⟨kb, f, none⟩ hv') kb b p ∧ Kept (fun x => x = kb ∨ hv.ownBlock = some x) w (w2.setCell ⟨kb, f, none⟩ hv') ∧
      (∀ f', f' ≠ f → (w2.setCell ⟨kb, f, none⟩ hv').cell? ⟨kb, f', none⟩ = w.cell? ⟨kb, f', none⟩) ∧ (∀ x, hv'.ownBlock = some x → hv.ownBlock = some x ∨ w.heap.size ≤ x) := by
  have ne1 : ¬ hv.ownBlock = some kb := hb.not h.2 hT
  have hK : Kept (fun k => hv.ownBlock = some k) w w2 := (Kept.of_below hal).trans hK2 (fun x h => .inl h)
  have hb2 := hb.kept hK ne1
  have KS3 := Kept.set w2 kb f hv'
  have hne : hv'.ownBlock ≠ some kb := hb2.not hown hT
  obtain ⟨cs, c1, c2, c3, c4⟩ := hb2
  refine ⟨⟨?_, ?_⟩, ⟨_, heap_set c1 _ _, by simpa using c2, ?_, ?_⟩, (hK.mono (G := fun x => x = kb ∨ hv.ownBlock = some x) (fun x _ h => .inr h)).trans KS3 (fun x h => .inl (.inl h)), ?_, fun x hx => (hblk x hx).imp (fun h => h) (fun h => Nat.le_trans hal.size h)⟩
  · rw [cell_heap (heap_set c1 _ _)]
    rw [Array.getElem?_setIfInBounds_self_of_lt (by omega)]
  · rw [List.length_append]
    exact own_kept hown KS3 (fun x hx he => by subst he; exact hne hx)
  · rw [Array.getElem?_setIfInBounds_ne (by omega)]; exact c3
  · rw [Array.getElem?_setIfInBounds_ne (by omega)]; exact c4
  · intro f' hf'
    rw [cell_set_off _ _ _ _ _ hf']
    exact hK.cell hb.lt ne1
end
/-- Is this a type of what is kept? -/
def cont (t : TypeId) : Bool := t == 5 || t == 3 || t == 116 || t == 127 || t == 130 || t == 74
/-- F has no block of what is kept. -/
def NoCont (w : World) (F : Nat → Prop) : Prop := ∀ g, F g → ∃ cs t fr, w.heap[g]? = some (.cells cs t fr) ∧ cont t = false
theorem NoCont.not {w : World} {F : Nat → Prop} (h : NoCont w F) {base s n : Nat} {t : TypeId} {v : Value} {xs : List Value} (ho : w.ownsRow base t s v n xs) (ht : cont t = true) {g : Nat} (hg : v.ownBlock = some g) : ¬ F g := fun hF => by
  obtain ⟨cs, t', fr, h1, h2⟩ := h g hF
  exact own_not_cells ho h1 (fun e => by rw [e, h2] at ht; cases ht) hg
/-- A frame that is kept: its number, its payload. -/
structure Fr where
  kind : Int
  pv : Value
  qv : Value
  bs : List (BitVec 8)
/-- What the elements of a kept list and those of its copy are. -/
def Can : Nat → (Nat → Prop) → World → Nat → List Value → List Value → Prop
  | 0, _, _, n, xs, ys => ∃ bs : List (BitVec 8), bs.length = n ∧ xs = bs.map V8 ∧ ys = xs
  | 1, _, _, n, xs, ys => ∃ zs : List Int, zs.length = n ∧ xs = zs.map (fun z => .int .i64 z) ∧ ys = xs
  | 4, _, _, n, xs, ys => ∃ zs : List (Nat × Nat), zs.length = n ∧ xs = zs.map (fun z => .complex .f64 z.1 z.2) ∧ ys = xs ∧ ∀ z ∈ zs, FloatKind.f64.format.order z.1 z.1 = some .eq ∧ FloatKind.f64.format.order z.2 z.2 = some .eq
  | 7, _, _, n, xs, ys => ∃ ps : List (Int × Int), ps.length = n ∧ xs = ps.flatMap (fun p => [.int .i64 p.1, .int .i64 p.2]) ∧ ys = xs
  | 8, _, _, n, xs, ys => ∃ ps : List (Int × Int × Bool), ps.length = n ∧ xs = ps.flatMap (fun p => [.int .i64 p.1, .int .i64 p.2.1, .bool p.2.2]) ∧ ys = xs
  | 13, U, w, n, xs, ys => ∃ fs : List Fr, fs.length = n ∧ xs = fs.flatMap (fun f => [.int .i64 f.kind, f.pv]) ∧ ys = fs.flatMap (fun f => [.int .i64 f.kind, f.qv]) ∧
      ∀ f ∈ fs, f.bs.length ≤ 1099511627776 ∧ w.ownsRow 0 5 1 f.pv f.bs.length (f.bs.map V8) ∧ w.ownsRow 0 5 1 f.qv f.bs.length (f.bs.map V8) ∧ (∀ g, f.pv.ownBlock = some g → U g) ∧ (∀ g, f.qv.ownBlock = some g → U g)
  | _, _, _, _, _, _ => False
/-- A kept list and its copy. -/
def Same (K : Nat) (U : Nat → Prop) (w : World) (v u : Value) : Prop :=
  cont (eT K) = true ∧ ∃ n xs ys, n ≤ 1099511627776 ∧ w.ownsRow 0 (eT K) (sz K) v n xs ∧ w.ownsRow 0 (eT K) (sz K) u n ys ∧ (∀ g, v.ownBlock = some g → U g) ∧ (∀ g, u.ownBlock = some g → U g) ∧ Can K U w n xs ys
section
variable {w w' : World} {K n : Nat} {U V F : Nat → Prop} {v u : Value} {xs ys : List Value}
theorem Can.kept (h : Can K U w n xs ys) (hk : Kept F w w') (hF : ∀ g, U g → F g → ∃ cs t fr, w.heap[g]? = some (.cells cs t fr) ∧ cont t = false) (hUV : ∀ g, U g → V g) : Can K V w' n xs ys := by
  match K, h with
  | 0, h | 1, h | 4, h | 7, h | 8, h => exact h
  | 13, h =>
    obtain ⟨fs, h1, h2, h3, h4⟩ := h
    refine ⟨fs, h1, h2, h3, fun f hf => ?_⟩
    obtain ⟨a1, a2, a3, a4, a5⟩ := h4 f hf
    exact ⟨a1, own_kept a2 hk (fun g hg hFg => by obtain ⟨cs, t', fr, e1, e2⟩ := hF g (a4 g hg) hFg; exact own_not_cells a2 e1 (fun e => by rw [← e] at e2; cases e2) hg),
      own_kept a3 hk (fun g hg hFg => by obtain ⟨cs, t', fr, e1, e2⟩ := hF g (a5 g hg) hFg; exact own_not_cells a3 e1 (fun e => by rw [← e] at e2; cases e2) hg), fun g hg => hUV g (a4 g hg), fun g hg => hUV g (a5 g hg)⟩
theorem Same.kept (h : Same K U w v u) (hk : Kept F w w') (hF : ∀ g, U g → F g → ∃ cs t fr, w.heap[g]? = some (.cells cs t fr) ∧ cont t = false) (hUV : ∀ g, U g → V g) : Same K V w' v u := by
  obtain ⟨hc, n, xs, ys, h1, h2, h3, h4, h5, h6⟩ := h
  exact ⟨hc, n, xs, ys, h1, own_kept h2 hk (fun g hg hFg => by obtain ⟨cs, t', fr, e1, e2⟩ := hF g (h4 g hg) hFg; exact own_not_cells h2 e1 (fun e => by rw [← e, hc] at e2; cases e2) hg),
    own_kept h3 hk (fun g hg hFg => by obtain ⟨cs, t', fr, e1, e2⟩ := hF g (h5 g hg) hFg; exact own_not_cells h3 e1 (fun e => by rw [← e, hc] at e2; cases e2) hg), fun g hg => hUV g (h4 g hg), fun g hg => hUV g (h5 g hg), h6.kept hk hF hUV⟩
end
/-- The lists of a kind while they are kept. -/
structure KW (w : World) (kb K : Nat) (vs ws : List Value) (hv hw : Value) : Prop where
  hvs : Hd w kb (2 + 3 * K) (sT K) vs hv
  hws : Hd w kb (3 + 3 * K) (sT K) ws hw
  hgs : w.cell? ⟨kb, 4 + 3 * K, none⟩ = some (.slice none 0 0)
  sep : Sep hv hw
theorem ut_keep {w0 w w' : World} {a1 a2 a3 a4 : Addr} {v1 v2 v3 v4 : Value} (h : (w.cell? a1 = some v1 ∧ w.cell? a2 = some v2 ∧ w.cell? a3 = some v3 ∧ w.cell? a4 = some v4) ∧ Below w0.heap.size w0 w) (hb : Below w.heap.size w w') :
    (w'.cell? a1 = some v1 ∧ w'.cell? a2 = some v2 ∧ w'.cell? a3 = some v3 ∧ w'.cell? a4 = some v4) ∧ Below w0.heap.size w0 w' :=
  ⟨⟨(hb.cell (cell_lt h.1.1)).trans h.1.1, (hb.cell (cell_lt h.1.2.1)).trans h.1.2.1, (hb.cell (cell_lt h.1.2.2.1)).trans h.1.2.2.1, (hb.cell (cell_lt h.1.2.2.2)).trans h.1.2.2.2⟩, h.2.trans (hb.mono h.2.size)⟩
/-- The four methods of a kind. -/
structure KindOK (K : Nat) (P : List Value → Prop) : Prop where
  untouched : ∀ (kb : Nat) (b p : Int) (vs ws : List Value) (hv hw : Value) (U : Nat → Prop) (w : World), P vs → BkC w kb b p → KW w kb K vs ws hv hw → vs.length ≤ 1048576 → ws.length = vs.length → (∀ (i : Nat) v, vs[i]? = some v → ∃ u, ws[i]? = some u ∧ Same K U w v u) →
    Calls Tryz.prog (uF K) #[.pointer (some ⟨kb, 0, none⟩)] w fun e w' => e = .returned (.bool true) ∧ Below w.heap.size w w'
  write : ∀ (kb : Nat) (b p id : Int) (vs gs : List Value) (hv hg : Value) (w : World), P vs → BkC w kb b p → KS w kb K vs gs hv hg → Rows w K vs (fun _ _ _ => True) → Apart vs → vs.length ≤ 1048576 → 0 ≤ id → id ≤ 1099511627776 →
    Calls Tryz.prog (wF K) #[.pointer (some ⟨kb, 0, none⟩), .int .i64 id] w fun e w' => e = .returned (.int .i64 (id + vs.length)) ∧ Kept (InB vs) w w' ∧ Rows w' K vs (fun i n xs => xs = marks K p (id + (i : Int) + 1) n)
  hold : ∀ (kb : Nat) (b p id : Int) (vs gs : List Value) (hv hg : Value) (w : World), P vs → BkC w kb b p → KS w kb K vs gs hv hg → Shows w K p id vs → Shows w K p id gs → vs.length ≤ 1048576 → 0 ≤ id → id ≤ 1099511627776 →
    Calls Tryz.prog (hF K) #[.pointer (some ⟨kb, 0, none⟩), .int .i64 id] w fun e w' => e = .returned (.tuple #[.int .i64 (id + vs.length), .bool true]) ∧ Below w.heap.size w w'
  grow : ∀ (kb t : Nat) (b p id : Int) (vs gs : List Value) (hv hg : Value) (w : World), P vs → t ≤ 100 → BkC w kb b p → KS w kb K vs gs hv hg → gs.length = laidN t 0 vs.length → Grown w K p id vs gs (fun _ => t) → Ap2 vs gs → vs.length ≤ 1048576 → 0 ≤ id → id ≤ 1099511627776 →
    Calls Tryz.prog (gF K) #[.pointer (some ⟨kb, 0, none⟩), .int .i64 id, .int .i64 (t : Int)] w (GrowSaid kb K b p id vs gs hv hg t w)
end Bk
end Go.Proofs.YtmeoafodcniliaaGreatDoor
