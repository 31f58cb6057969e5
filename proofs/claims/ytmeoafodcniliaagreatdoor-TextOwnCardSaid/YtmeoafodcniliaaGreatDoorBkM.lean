/- memory that is kept but for some blocks; rows of one's own apart from one another; an append that tells what becomes of the row that it was given -/
import Derived.Test.YtmeoafodcniliaaGreatDoorWords
namespace Go.Proofs.YtmeoafodcniliaaGreatDoor
open Go.RowKit
set_option linter.unusedSimpArgs false
set_option linter.unusedVariables false
namespace Bk
/-- All blocks but those of F are as they were. -/
structure Kept (F : Nat → Prop) (w w' : World) : Prop where
  os : w'.os = w.os
  tape : w'.tape = w.tape
  output : w'.output = w.output
  size : w.heap.size ≤ w'.heap.size
  block : ∀ k, k < w.heap.size → ¬ F k → w'.heap[k]? = w.heap[k]?
variable {F G : Nat → Prop} {a b c w w' : World}
theorem Kept.refl (F : Nat → Prop) (w : World) : Kept F w w := ⟨rfl, rfl, rfl, Nat.le_refl _, fun _ _ _ => rfl⟩
theorem Kept.trans (h : Kept F a b) (k : Kept G b c) (hs : ∀ x, G x → F x ∨ a.heap.size ≤ x) : Kept F a c :=
  ⟨k.os.trans h.os, k.tape.trans h.tape, k.output.trans h.output, Nat.le_trans h.size k.size, fun i hi hn => (k.block i (Nat.lt_of_lt_of_le hi h.size) (fun hg => by
    rcases hs i hg with h1 | h1
    · exact hn h1
    · omega)).trans (h.block i hi hn)⟩
theorem Kept.mono (h : Kept F a b) (hs : ∀ x, x < a.heap.size → F x → G x) : Kept G a b :=
  ⟨h.os, h.tape, h.output, h.size, fun i hi hn => h.block i hi fun hm => hn (hs i hi hm)⟩
theorem Kept.of_below (h : Below w.heap.size w w') : Kept F w w' := ⟨h.os, h.tape, h.output, h.size, fun k hk _ => h.block k hk⟩
theorem Kept.below {B : Nat} (h : Kept F w w') (hB : B ≤ w.heap.size) (hk : ∀ k, F k → B ≤ k) : Below B w w' :=
  ⟨h.os, h.tape, h.output, h.size, fun k hk2 => h.block k (Nat.lt_of_lt_of_le hk2 hB) fun hm => by have := hk k hm; omega⟩
theorem Kept.drewN (F : Nat → Prop) (w : World) (k : Nat) : Kept F w (w.drewN k) := ⟨rfl, rfl, rfl, Nat.le_refl _, fun _ _ _ => rfl⟩
theorem Kept.alloc (h : Kept F w w') (o : Obj) : Kept F w (w'.alloc o) :=
  h.trans (G := fun _ => False) ⟨rfl, rfl, rfl, by simp, fun k hk _ => Below.heap_alloc _ _ _ hk⟩ (fun _ h => h.elim)
theorem Kept.set (w : World) (g o : Nat) (v : Value) : Kept (fun k => k = g) w (w.setCell ⟨g, o, none⟩ v) :=
  ⟨rfl, rfl, rfl, by simp [World.setCell], fun k hk hne => Below.heap_setCell _ _ _ _ hne⟩
theorem Kept.grown {o : Option Nat} (h : w.grownBy w' o) : Kept (fun k => o = some k) w w' :=
  ⟨h.os, h.tape, h.output, h.size, fun k hk hn => h.block k hk fun he => hn he.symm⟩
theorem Kept.cell (h : Kept F w w') {g o : Nat} (hg : g < w.heap.size) (hn : ¬ F g) : w'.cell? ⟨g, o, none⟩ = w.cell? ⟨g, o, none⟩ := World.cell?_of_block (w := w) (h.block g hg hn)
theorem drewN_below (w : World) (k : Nat) : Below w.heap.size w (w.drewN k) := ⟨rfl, rfl, rfl, Nat.le_refl _, fun _ _ => rfl⟩
theorem heap_setOther (w : World) (g o k : Nat) (u : Value) (h : k ≠ g) : (w.setCell ⟨g, o, none⟩ u).heap[k]? = w.heap[k]? := Below.heap_setCell _ _ _ _ h
section
variable {base base' base2 s s2 : Nat} {t t2 : TypeId} {v v2 : Value} {n n2 : Nat} {xs xs2 : List Value}
theorem own_kept (ho : w.ownsRow base t s v n xs) (hk : Kept F w w') (hn : ∀ g, v.ownBlock = some g → ¬ F g) : w'.ownsRow base t s v n xs := by
  obtain ⟨h1, h2⟩ := ho
  refine ⟨h1, ?_⟩
  rcases h2 with h2 | ⟨g, cap, cur, h2, h3, h4, h5⟩
  · exact .inl h2
  · exact .inr ⟨g, cap, cur, h2, h3, (hk.block g (lt_heap h4) (hn g (by rw [h2]; rfl))).trans h4, h5⟩
theorem own_below_any (h : w.ownsRow base t s v n xs) (hb : Below w.heap.size w w') : w'.ownsRow base t s v n xs := own_kept (F := fun _ => False) h (Kept.of_below hb) (fun _ _ h => h)
theorem own_base (h : w.ownsRow base t s v n xs) (hb : base' ≤ base) : w.ownsRow base' t s v n xs := by
  obtain ⟨h1, h2⟩ := h
  refine ⟨h1, ?_⟩
  rcases h2 with h2 | ⟨g, cap, cur, h2, h3, h4, h5⟩
  · exact .inl h2
  · exact .inr ⟨g, cap, cur, h2, by omega, h4, h5⟩
theorem own_zero (h : w.ownsRow base t s v n xs) : w.ownsRow 0 t s v n xs := own_base h (Nat.zero_le _)
theorem own_drewN (h : w.ownsRow base t s v n xs) (k : Nat) : (w.drewN k).ownsRow base t s v n xs := h
theorem own_blk (h : w.ownsRow base t s v n xs) {g : Nat} (hg : v.ownBlock = some g) : base ≤ g ∧ g < w.heap.size := h.lt g hg
/-- Rows of unlike types lie in unlike blocks. -/
theorem own_apart (h : w.ownsRow base t s v n xs) (h2 : w.ownsRow base2 t2 s2 v2 n2 xs2) (ht : t ≠ t2) {g : Nat} (hg : v.ownBlock = some g) : v2.ownBlock ≠ some g := by
  intro hg2
  rcases h.2 with ⟨e, _⟩ | ⟨k, cap, cur, e, _, h4, _⟩
  · rw [e] at hg; cases hg
  · rcases h2.2 with ⟨e2, _⟩ | ⟨k2, cap2, cur2, e2, _, h42, _⟩
    · rw [e2] at hg2; cases hg2
    · rw [e] at hg; rw [e2] at hg2
      injection hg with hg; injection hg2 with hg2
      subst hg; subst hg2
      rw [h4] at h42; injection h42 with h42; injection h42 with _ h42
      exact ht h42
theorem own_not_cells {cs : Array Value} {fr : Nat × Nat} {k : Nat} (h : w.ownsRow base t s v n xs) (hk : w.heap[k]? = some (.cells cs t2 fr)) (ht : t ≠ t2) : v.ownBlock ≠ some k := by
  intro hg
  rcases h.2 with ⟨e, _⟩ | ⟨j, cap, cur, e, _, h4, _⟩
  · rw [e] at hg; cases hg
  · rw [e] at hg; injection hg with hg; subst hg
    rw [hk] at h4; injection h4 with h4; injection h4 with _ h4
    exact ht h4.symm
/-- An owned row, opened. -/
theorem own_open (h : w.ownsRow base t s v n xs) : ∃ A cap, v = .slice A n cap ∧ n ≤ cap ∧ cap ≤ maxLen ∧ xs.length = n * s ∧ (A = none → n = 0 ∧ cap = 0) ∧
    (∀ ad, A = some ad → ∃ g cur, ad = ⟨g, 0, none⟩ ∧ base ≤ g ∧ w.heap[g]? = some (.cells cur t (0, 0)) ∧ cur.size = cap * s ∧ cur.toList.take (n * s) = xs) := by
  obtain ⟨h1, h2⟩ := h
  rcases h2 with ⟨rfl, rfl⟩ | ⟨g, cap, cur, rfl, h3, h4, h5, h6, h7, h8⟩
  · exact ⟨none, 0, rfl, Nat.le_refl _, by unfold maxLen; omega, h1, fun _ => ⟨rfl, rfl⟩, fun ad h => by cases h⟩
  · exact ⟨some ⟨g, 0, none⟩, cap, rfl, h5, h6, h1, ⟨(fun h => by cases h), (fun ad h => by injection h with h; exact ⟨g, cur, h.symm, h3, h4, h7, h8⟩)⟩⟩
theorem own_hdr (h : w.ownsRow base t s v n xs) : ∃ A cap, v = .slice A n cap ∧ n ≤ cap ∧ cap ≤ maxLen := by
  obtain ⟨A, cap, h1, h2, h3, _⟩ := own_open h
  exact ⟨A, cap, h1, h2, h3⟩
theorem own_caps {A : Option Addr} {m cap : Nat} (h : w.ownsRow base t s (.slice A m cap) n xs) : m ≤ cap ∧ cap ≤ maxLen := by
  rcases h.2 with ⟨h2, rfl⟩ | ⟨g, cap', cur, h2, _, _, h5, h6, _⟩
  · injection h2 with _ h1 h2; subst h1; subst h2; exact ⟨Nat.le_refl _, by unfold maxLen; omega⟩
  · injection h2 with _ h1 h2; subst h1; subst h2; exact ⟨h5, h6⟩
theorem own_rd {A : Option Addr} {m cap : Nat} (h : w.ownsRow base t s (.slice A m cap) n xs) : Rd w w.heap.size A xs := by
  intro k u hu
  have hk : k < xs.length := (List.getElem?_eq_some_iff.1 hu).1
  rcases h.2 with ⟨h2, rfl⟩ | ⟨g, cap', cur, h2, _, h4, h5, h6, h7, h8⟩
  · have := h.1; omega
  · injection h2 with e1 e2 e3
    subst e1
    refine ⟨g, 0, rfl, lt_heap h4, ?_⟩
    have := h.1
    rw [cell_heap h4, Nat.zero_add, ← hu, ← h8, List.getElem?_take, if_pos (by omega)]
    simp
theorem own_nil1 {A : Option Addr} {m cap : Nat} (h : w.ownsRow base t s (.slice A m cap) n xs) : A = none → m = 0 ∧ cap = 0 := by
  rintro rfl
  rcases h.2 with ⟨h2, rfl⟩ | ⟨g, cap', cur, h2, _⟩
  · injection h2 with _ h1 h2; exact ⟨h1, h2⟩
  · injection h2 with h2; cases h2
/-- A cell of an owned row. -/
theorem own_cell {g m cap : Nat} (h : w.ownsRow base t s (.slice (some ⟨g, 0, none⟩) m cap) n xs) {k : Nat} {u : Value} (hu : xs[k]? = some u) : w.cell? ⟨g, k, none⟩ = some u := by
  obtain ⟨b, off, e, _, hc⟩ := own_rd h k u hu
  injection e with e; injection e with e1 e2 e3
  subst e1 e2
  rw [Nat.zero_add] at hc; exact hc
theorem own_frozen {g m cap : Nat} (h : w.ownsRow base t s (.slice (some ⟨g, 0, none⟩) m cap) n xs) (o : Nat) : w.frozen? ⟨g, o, none⟩ = false := by
  rcases h.2 with ⟨h2, _⟩ | ⟨k, cap', cur, h2, _, h4, _⟩
  · cases h2
  · injection h2 with h2; injection h2 with h2; injection h2 with h2; subst h2
    exact frozen_heap h4 o
theorem own_some (h : w.ownsRow base t s v n xs) (h0 : 0 < n) : ∃ g cap, v = .slice (some ⟨g, 0, none⟩) n cap ∧ n ≤ cap ∧ cap ≤ maxLen ∧ g < w.heap.size := by
  rcases h.2 with ⟨_, rfl⟩ | ⟨g, cap, cur, rfl, h3, h4, h5, h6, h7, h8⟩
  · omega
  · exact ⟨g, cap, rfl, h5, h6, lt_heap h4⟩
/-- A store into one cell of an owned row. -/
theorem own_set {g m cap : Nat} (h : w.ownsRow base t s (.slice (some ⟨g, 0, none⟩) m cap) n xs) {j : Nat} (hj : j < xs.length) (u : Value) :
    (w.setCell ⟨g, j, none⟩ u).ownsRow base t s (.slice (some ⟨g, 0, none⟩) m cap) n (xs.set j u) := by
  obtain ⟨h1, h2⟩ := h
  refine ⟨by rw [List.length_set]; exact h1, ?_⟩
  rcases h2 with ⟨h2, _⟩ | ⟨k, cap', cur, h2, h3, h4, h5, h6, h7, h8⟩
  · cases h2
  · have e2 := h2
    injection h2 with h2; injection h2 with h2; injection h2 with h2; subst h2
    refine .inr ⟨_, cap', _, e2, h3, heap_set h4 j u, h5, h6, by simpa using h7, ?_⟩
    rw [Array.toList_setIfInBounds, List.take_set, h8]
end
/-- The rows of two lists are apart where they have blocks. -/
def Sep (u v : Value) : Prop := ∀ g, u.ownBlock = some g → v.ownBlock ≠ some g
theorem Sep.symm {u v : Value} (h : Sep u v) : Sep v u := fun g h1 h2 => h g h2 h1
theorem sep_nil (v : Value) (n c : Nat) : Sep (.slice none n c) v := fun g h => by cases h
/-- An append to an owned row: the row that was handed in still holds what it held; the new one lies where it lay or in a block that is new. -/
theorem run_append_two {P : Program} (w : World) (base : Nat) (t ty e : TypeId) (i : TypeInfo) (z : Value) (size bytes : Nat) (ht : P.underlying t = some (.slice e)) (hi : P.info? e = some i) (hz : i.zero = some z)
    (hsize : i.size = size) (hby : i.bytes = bytes) (hzs : z.cells.size = size) (hsz : 0 < size)
    (v : Value) (n : Nat) (xs : List Value) (hown : w.ownsRow base e size v n xs)
    (a : Addr) (m c : Nat) (news : List Value) (hm : 0 < m) (hl : news.length = m * size) (hnews : ∀ j u, news[j]? = some u → w.cell? (a.add j) = some u) (h1 : ∀ u ∈ news, u.oneCell' = true)
    (h63 : n + m ≤ maxLen) (hbytes : (n + m) * bytes ≤ 140737488355328) (hbase : base ≤ w.heap.size) :
    ∃ v' w', (Builtin.append_ #[t, t] ty #[v, .slice (some a) m c]).run P w = .ok v' w' ∧ w'.ownsRow base e size v' (n + m) (xs ++ news) ∧ w'.ownsRow base e size v n xs ∧ w.grownBy w' v.ownBlock ∧
      (∀ g, v'.ownBlock = some g → v.ownBlock = some g ∨ w.heap.size ≤ g) := by
  subst hsize
  subst hby
  have hsmall : n + m ≤ 9223372036854775807 := by simp only [maxLen] at h63; omega
  have hlen : (xs ++ news).length = (n + m) * i.size := by rw [List.length_append, hown.1, hl, Nat.add_mul]
  rcases hown.2 with ⟨rfl, rfl⟩ | ⟨g, cap, cur, rfl, hbg, hg, hnc, hcm, hcs, htake⟩
  · have hx : xs = [] := List.eq_nil_of_length_eq_zero (by simpa using hown.1)
    subst hx
    have hr := run_append_nil (P := P) w t ty e i z ht hi hz a m c news hl hnews hm (by have := hsmall; omega) (by have hb := hbytes; simp only [Nat.zero_add] at hb; omega)
    refine ⟨_, _, hr, ⟨by simpa using hlen, .inr ⟨w.heap.size, _, _, by rw [Nat.zero_add], hbase, heap_alloc_new w.drew _, ?_, grownCap_le_maxLen w m 0 e (by simpa using h63), ?_, ?_⟩⟩, World.ownsRow_nil _ _ _ _, ⟨rfl, rfl, rfl, by simp, fun k hk _ => Below.heap_alloc w.drew _ k hk⟩, ?_⟩
    · have := grownCap_ge w m 0 e; omega
    · have := grownCap_ge w m 0 e
      simp only [Array.size_append, List.size_toArray, size_zeroCells, hzs, hl, ← Nat.add_mul]
      congr 1; omega
    · simp only [Array.toList_append, Nat.zero_add, List.nil_append]
      rw [← hl]; exact List.take_left
    · intro g hg; simp [Value.ownBlock] at hg; right; omega
  · by_cases hroom : n + m ≤ cap
    · have hfit : n * i.size + news.length ≤ cur.size := by rw [hl, hcs, ← Nat.add_mul]; exact Nat.mul_le_mul_right _ hroom
      have hr := run_append_room (P := P) w t ty e i ht hi g n cap cur hg a m c news hl hnews h1 hroom hfit
      have hxl := hown.1
      have hg' := setRow_heap w g cur (cur.toList.take (n * i.size) ++ news ++ cur.toList.drop (n * i.size + news.length)).toArray e (0, 0) hg
      have hcz : (cur.toList.take (n * i.size) ++ news ++ cur.toList.drop (n * i.size + news.length)).toArray.size = cap * i.size := by
        simp only [List.size_toArray, List.length_append, List.length_take, List.length_drop, Array.length_toList]; omega
      refine ⟨_, _, hr, ⟨hlen, .inr ⟨g, cap, _, rfl, hbg, hg', hroom, hcm, hcz, ?_⟩⟩, ⟨hown.1, .inr ⟨g, cap, _, rfl, hbg, hg', hnc, hcm, hcz, ?_⟩⟩, ⟨rfl, rfl, rfl, by simp, fun k _ hk => setRow_other w g k _ (fun e => hk (by simp [Value.ownBlock, e]))⟩, fun k hk => .inl hk⟩
      · simp only []
        rw [htake, ← hlen]
        exact List.take_left
      · simp only []
        rw [htake, ← hxl, List.append_assoc]
        exact List.take_left
    · have holds : ∀ j u, xs[j]? = some u → w.cell? ((⟨g, 0, none⟩ : Addr).add j) = some u := hown.cells (g := g) rfl
      have hr := run_append_grow (P := P) w t ty e i z ht hi hz ⟨g, 0, none⟩ n cap xs hown.1 holds a m c news hl hnews (by omega) (by omega) (growslice_fits (by omega) hbytes)
      refine ⟨_, _, hr, ⟨hlen, .inr ⟨w.heap.size, _, _, rfl, hbase, heap_alloc_new w.drew _, grownCap_ge w (n + m) cap e, grownCap_le_maxLen w (n + m) cap e h63, ?_, ?_⟩⟩, ?_, ⟨rfl, rfl, rfl, by simp, fun k hk _ => Below.heap_alloc w.drew _ k hk⟩, ?_⟩
      · have := grownCap_ge w (n + m) cap e
        simp only [Array.size_append, List.size_toArray, size_zeroCells, hzs, hown.1, hl, ← Nat.add_mul]
        congr 1; omega
      · simp only [Array.toList_append, List.append_assoc]
        rw [← List.append_assoc, ← hlen]
        exact List.take_left
      · exact ⟨hown.1, .inr ⟨g, cap, cur, rfl, hbg, (Below.heap_alloc w.drew _ g (lt_heap hg)).trans hg, hnc, hcm, hcs, htake⟩⟩
      · intro k hk; simp [Value.ownBlock] at hk; right; omega
theorem wpList_append_two {P : Program} {w : World} {ops : Array Oper} {rest : List Oper} {o : Oper} {a : Act} {Q : Exit → Act → World → Prop} (hgd : o.guard = none) (s x : Operand) (t : TypeId)
    (ho : o.op = .call { callee := .builtin .append, args := #[s, x], argTypes := #[t, t] })
    (e : TypeId) (i : TypeInfo) (z : Value) (size bytes : Nat) (ht : P.underlying t = some (.slice e)) (hi : P.info? e = some i) (hz : i.zero = some z)
    (hsize : i.size = size) (hby : i.bytes = bytes) (hzs : z.cells.size = size) (hsz : 0 < size)
    (v : Value) (n : Nat) (xs : List Value) (hs : a.eval s = v) (hown : w.ownsRow 0 e size v n xs)
    (A : Option Addr) (m c B : Nat) (news : List Value) (hx : a.eval x = .slice A m c) (hm : 0 < m) (hl : news.length = m * size) (hr : Rd w B A news) (h1 : ∀ u ∈ news, u.oneCell' = true)
    (h63 : n + m ≤ maxLen) (hbytes : (n + m) * bytes ≤ 140737488355328)
    (h : ∀ v' w', w'.ownsRow 0 e size v' (n + m) (xs ++ news) → w'.ownsRow 0 e size v n xs → Kept (fun k => v.ownBlock = some k) w w' → (∀ g, v'.ownBlock = some g → v.ownBlock = some g ∨ w.heap.size ≤ g) → wpList P ops Q rest (a.put o.dst v') w') : wpList P ops Q (o :: rest) a w := by
  have hnz : 0 < news.length := by rw [hl]; exact Nat.mul_pos hm hsz
  obtain ⟨b, off, rfl, _⟩ := hr 0 _ (List.getElem?_eq_getElem hnz)
  refine wpList_plain hgd fun _ hK => ?_
  obtain ⟨v', w', hrun, h2, h3, h4, h5⟩ := run_append_two (P := P) w 0 t o.type e i z size bytes ht hi hz hsize hby hzs hsz v n xs hown ⟨b, off, none⟩ m c news hm hl (rd_news hr _ rfl) h1 h63 hbytes (Nat.zero_le _)
  unfold Oper.wp execOp
  simp only [ho, resolve, invoke, builtin, Sem.run_bind, Sem.run_pure, Result.andThen_ok, List.map_toArray, List.map_cons, List.map_nil, hs, hx, hrun]
  exact hK _ _ (h v' w' h2 h3 (Kept.grown h4) h5)
theorem heap_cell_other (w : World) (k f g o : Nat) (u : Value) (h : k ≠ g) : (w.setCell ⟨g, o, none⟩ u).cell? ⟨k, f, none⟩ = w.cell? ⟨k, f, none⟩ := World.cell?_setCell_other _ _ _ _ (fun e => by injection e with e _ _; exact h e.symm)
theorem rd_alloc (w : World) (C : Array Value) (t : TypeId) (vs : List Value) (h : C.toList = vs) : Rd (w.alloc (.cells C t)) (w.heap.size + 1) (some ⟨w.heap.size, 0, none⟩) vs := by
  intro k v hv
  refine ⟨w.heap.size, 0, rfl, by omega, ?_⟩
  rw [Nat.zero_add, cell_heap (heap_alloc_new w _), ← hv, ← h]; simp
theorem step_append_two {P : Program} {w : World} {ops : Array Oper} {o : Oper} {a : Act} {K : Act → World → Prop} {Q : Exit → Act → World → Prop} {E : Prop} (hgd : o.guard = none) (s x : Operand) (t : TypeId)
    (ho : o.op = .call { callee := .builtin .append, args := #[s, x], argTypes := #[t, t] })
    (e : TypeId) (i : TypeInfo) (z : Value) (size bytes : Nat) (ht : P.underlying t = some (.slice e)) (hi : P.info? e = some i) (hz : i.zero = some z)
    (hsize : i.size = size) (hby : i.bytes = bytes) (hzs : z.cells.size = size) (hsz : 0 < size)
    (v : Value) (n : Nat) (xs : List Value) (hs : a.eval s = v) (hown : w.ownsRow 0 e size v n xs)
    (ad : Addr) (m c B : Nat) (news : List Value) (hx : a.eval x = .slice (some ad) m c) (hm : 0 < m) (hl : news.length = m * size) (hr : Rd w B (some ad) news) (h1 : ∀ u ∈ news, u.oneCell' = true)
    (h63 : n + m ≤ maxLen) (hbytes : (n + m) * bytes ≤ 140737488355328)
    (h : ∀ v' w', Hid (w'.ownsRow 0 e size v' (n + m) (xs ++ news)) → Hid (w'.ownsRow 0 e size v n xs) → Hid (Kept (fun k => v.ownBlock = some k) w w') → Hid (∀ g, v'.ownBlock = some g → v.ownBlock = some g ∨ w.heap.size ≤ g) → K (a.put o.dst v') w') :
    if Region.wanted o (yielded ops a.tmps) = true then Oper.wp P o a w K Q else E := by
  have hw : Region.wanted o (yielded ops a.tmps) = true := by simp [Region.wanted, hgd]
  rw [if_pos hw]
  obtain ⟨v', w', hrun, h2, h3, h4, h5⟩ := run_append_two (P := P) w 0 t o.type e i z size bytes ht hi hz hsize hby hzs hsz v n xs hown ad m c news hm hl (rd_news hr _ rfl) h1 h63 hbytes (Nat.zero_le _)
  unfold Oper.wp execOp
  simp only [ho, resolve, invoke, builtin, Sem.run_bind, Sem.run_pure, Result.andThen_ok, List.map_toArray, List.map_cons, List.map_nil, hs, hx, hrun]
  exact h v' w' h2 h3 (Kept.grown h4) h5
/-- A row that lies in the block of a longer one, behind a world that kept the longer one's elements. -/
theorem own_prefix {w w' : World} {base s n m : Nat} {t : TypeId} {v g : Value} {xs ys : List Value} {k : Nat} (hv : w.ownsRow base t s v n xs) (hg : w.ownsRow base t s g m ys) (hg' : w'.ownsRow base t s g m ys) (h1 : v.ownBlock = some k) (h2 : g.ownBlock = some k) (hnm : n ≤ m) : w'.ownsRow base t s v n xs := by
  refine ⟨hv.1, ?_⟩
  rcases hv.2 with ⟨e, _⟩ | ⟨gv, cv, curv, e, a1, a2, a3, a4, a5, a6⟩
  · rw [e] at h1; cases h1
  rcases hg.2 with ⟨e2, _⟩ | ⟨gg, cg, curg, e2, b1, b2, b3, b4, b5, b6⟩
  · rw [e2] at h2; cases h2
  rcases hg'.2 with ⟨e3, _⟩ | ⟨gg', cg', curg', e3, d1, d2, d3, d4, d5, d6⟩
  · rw [e3] at h2; cases h2
  subst e
  rw [e2] at h2 e3
  injection h1 with h1; injection h2 with h2
  subst h1
  injection e3 with e3 _ e4; injection e3 with e3; injection e3 with e3
  subst e4; subst e3
  have h2' : gg = gv := h2
  subst h2'
  rw [a2] at b2
  injection b2 with b2; injection b2 with b2
  subst b2
  refine .inr ⟨gg, cv, curg', rfl, a1, d2, a3, a4, by omega, ?_⟩
  have hle : n * s ≤ m * s := Nat.mul_le_mul_right _ hnm
  rw [← a6, show curg'.toList.take (n * s) = (curg'.toList.take (m * s)).take (n * s) by rw [List.take_take, Nat.min_eq_left hle], d6, ← b6, List.take_take, Nat.min_eq_left hle]
end Bk
end Go.Proofs.YtmeoafodcniliaaGreatDoor
