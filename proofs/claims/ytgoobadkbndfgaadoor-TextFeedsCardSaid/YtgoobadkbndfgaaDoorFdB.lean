/- (*feeder).feed -/
import Derived.Test.YtgoobadkbndfgaaDoorFdA
import Derived.Test.YtgoobadkbndfgaaDoorLawPa
import Derived.Deep.RegionHeld3
import Derived.Deep.DeepCutAuto
namespace Go.Proofs.YtgoobadkbndfgaaDoor
open Go.RowKit
set_option linter.unusedSimpArgs false
set_option linter.unusedVariables false
theorem wpList_append_rd_at {P : Program} {w : World} {ops : Array Oper} {rest : List Oper} {o : Oper} {a : Act} {Q : Exit → Act → World → Prop} (hgd : o.guard = none) (s x : Operand) (t : TypeId)
    (ho : o.op = .call { callee := .builtin .append, args := #[s, x], argTypes := #[t, t] })
    (base : Nat) (e : TypeId) (i : TypeInfo) (z : Value) (bytes : Nat) (ht : P.underlying t = some (.slice e)) (hi : P.info? e = some i) (hz : i.zero = some z)
    (hsize : i.size = 1) (hby : i.bytes = bytes) (hzs : z.cells.size = 1)
    (v : Value) (n : Nat) (xs : List Value) (hs : a.eval s = v) (hown : w.ownsRow base e 1 v n xs)
    (B : Nat) (A : Option Addr) (m c : Nat) (news : List Value) (hx : a.eval x = .slice A m c) (hm : m = news.length) (hnil : A = none → m = 0 ∧ c = 0) (hr : Rd w B A news) (h1 : ∀ u ∈ news, u.oneCell' = true)
    (h63 : n + m ≤ maxLen) (hbytes : (n + m) * bytes ≤ 140737488355328) (hbase : base ≤ w.heap.size)
    (h : ∀ v' w', w'.ownsRow base e 1 v' (n + m) (xs ++ news) → w.grownBy w' v.ownBlock → (v'.ownBlock = v.ownBlock ∨ v'.ownBlock = some w.heap.size) → wpList P ops Q rest (a.put o.dst v') w') : wpList P ops Q (o :: rest) a w := by
  rcases A with _ | ad
  · obtain ⟨rfl, rfl⟩ := hnil rfl
    have hn : news = [] := List.eq_nil_of_length_eq_zero hm.symm
    subst hn
    refine wpList_append_own_none hgd s x t ho base e i 1 ht hi v n xs hs hown hx ?_
    exact h v w (by simpa using hown) (World.grownBy.refl w _) (Or.inl rfl)
  · exact wpList_append_own_at w hgd s x t ho base e i z 1 bytes ht hi hz hsize hby hzs (by decide) v n xs hs hown ad m c news hx (by omega) (rd_news hr ad rfl) h1 h63 hbytes hbase fun v' w' h2 h3 _ h5 => h v' w' h2 h3 h5
/-- A feeder that goes on: what it was fed, the blocks that it owns. -/
def FeLive (w : World) (gf gs : Nat) (ks : List Nat) (c : List (BitVec 8)) : Prop := ∃ Af capf Ar capr,
  FeIs w gf (.pointer (some ⟨gs, 0, none⟩)) (.slice Af c.length capf) ((Tx.runW c).pairs.length : Nat) false ∧
  EdIs w gs (.slice Ar (Tx.tail c).length capr) (Tx.runW c).k 0 (Tx.runW c).n (Tx.runW c).begun false ∧
  w.ownsRow 0 5 1 (.slice Af c.length capf) c.length (c.map V8) ∧
  w.ownsRow 0 5 1 (.slice Ar (Tx.tail c).length capr) (Tx.tail c).length ((Tx.tail c).map V8) ∧
  (∀ g, (Value.slice Af c.length capf).ownBlock = some g → (Value.slice Ar (Tx.tail c).length capr).ownBlock = some g → False) ∧
  (Tx.runW c).e = 0 ∧ ks = gf :: gs :: ((Value.slice Af c.length capf).ownBlock.toList ++ (Value.slice Ar (Tx.tail c).length capr).ownBlock.toList)
/-- One that has ended. -/
def FeDone (w : World) (gf gs : Nat) (ks : List Nat) : Prop := ∃ fv told rv L F N b,
  FeIs w gf (.pointer (some ⟨gs, 0, none⟩)) fv told true ∧ EdIs w gs rv L F N b true ∧ ks = [gf, gs]
def Fe (w : World) (gf gs : Nat) (ks : List Nat) (c : List (BitVec 8)) : Prop := FeLive w gf gs ks c ∨ FeDone w gf gs ks
theorem FeLive.mem {w : World} {gf gs : Nat} {ks : List Nat} {c : List (BitVec 8)} (h : FeLive w gf gs ks c) : ∀ k ∈ ks, k < w.heap.size := by
  obtain ⟨Af, capf, Ar, capr, h1, h2, h3, h4, _, _, rfl⟩ := h
  intro k hk
  rcases List.mem_cons.1 hk with h | h
  · rw [h]; exact h1.lt
  · rcases List.mem_cons.1 h with h | h
    · rw [h]; exact h2.lt
    · rcases List.mem_append.1 h with h | h
      · exact (own_blk h3 (g := k) (by simpa using h)).2
      · exact (own_blk h4 (g := k) (by simpa using h)).2
theorem Fe.mem {w : World} {gf gs : Nat} {ks : List Nat} {c : List (BitVec 8)} (h : Fe w gf gs ks c) : ∀ k ∈ ks, k < w.heap.size := by
  rcases h with h | ⟨fv, told, rv, L, F, N, b, h1, h2, rfl⟩
  · exact h.mem
  · intro k hk
    simp at hk
    rcases hk with rfl | rfl
    · exact h1.lt
    · exact h2.lt
theorem FeLive.keep {w w' : World} {gf gs : Nat} {ks os : List Nat} {c : List (BitVec 8)} (h : FeLive w gf gs ks c) (hk : Keep os w w') (hn : ∀ k ∈ ks, k ∉ os) : FeLive w' gf gs ks c := by
  obtain ⟨Af, capf, Ar, capr, h1, h2, h3, h4, h5, h6, rfl⟩ := h
  refine ⟨Af, capf, Ar, capr, h1.keep hk (hn _ (by simp)), h2.keep hk (hn _ (by simp)), own_keep h3 hk (fun g hg => hn g (by simp [hg])), own_keep h4 hk (fun g hg => hn g (by simp [hg])), h5, h6, rfl⟩
theorem Fe.keep {w w' : World} {gf gs : Nat} {ks os : List Nat} {c : List (BitVec 8)} (h : Fe w gf gs ks c) (hk : Keep os w w') (hn : ∀ k ∈ ks, k ∉ os) : Fe w' gf gs ks c := by
  rcases h with h | ⟨fv, told, rv, L, F, N, b, h1, h2, rfl⟩
  · exact Or.inl (h.keep hk hn)
  · exact Or.inr ⟨fv, told, rv, L, F, N, b, h1.keep hk (hn _ (by simp)), h2.keep hk (hn _ (by simp)), rfl⟩
theorem keep_of_lt {ks : List Nat} {w w' : World} (hb : Below w.heap.size w w') : Keep ks w w' := Keep.of_below hb
/-- What feed and end answer. -/
def FeedSaid (gf gs : Nat) (ks : List Nat) (c : List (BitVec 8)) (m : Nat) (w : World) (en : Ending) (w' : World) : Prop :=
  en = .returned (.bool true) ∧ ∃ ks' c', Fe w' gf gs ks' c' ∧ c'.length ≤ c.length + m ∧ Keep ks w w' ∧ ∀ k ∈ ks', k ∈ ks ∨ w.heap.size ≤ k
theorem d_set5 {w6 W : World} {gf gd : Nat} {v : Value} (h : (W.cell? ⟨gf, 1, none⟩ = some v ∧ gf < w6.heap.size) ∧ Below w6.heap.size w6 W) (hg : w6.heap.size ≤ gd) {v0 v1 v2 v3 v4 : Value} :
    ((((((W.setCell ⟨gd, 0, none⟩ v0).setCell ⟨gd, 1, none⟩ v1).setCell ⟨gd, 2, none⟩ v2).setCell ⟨gd, 3, none⟩ v3).setCell ⟨gd, 4, none⟩ v4).cell? ⟨gf, 1, none⟩ = some v ∧ gf < w6.heap.size) ∧ Below w6.heap.size w6 (((((W.setCell ⟨gd, 0, none⟩ v0).setCell ⟨gd, 1, none⟩ v1).setCell ⟨gd, 2, none⟩ v2).setCell ⟨gd, 3, none⟩ v3).setCell ⟨gd, 4, none⟩ v4) := by
  have hb : Below w6.heap.size W (((((W.setCell ⟨gd, 0, none⟩ v0).setCell ⟨gd, 1, none⟩ v1).setCell ⟨gd, 2, none⟩ v2).setCell ⟨gd, 3, none⟩ v3).setCell ⟨gd, 4, none⟩ v4) := (((((Below.refl _ _).setCell hg _).setCell hg _).setCell hg _).setCell hg _).setCell hg _
  exact ⟨⟨(hb.cell (p := ⟨gf, 1, none⟩) h.1.2).trans h.1.1, h.1.2⟩, h.2.trans hb⟩
theorem d_drew {w6 W : World} {gf : Nat} {v : Value} (h : (W.cell? ⟨gf, 1, none⟩ = some v ∧ gf < w6.heap.size) ∧ Below w6.heap.size w6 W) : (W.drew.cell? ⟨gf, 1, none⟩ = some v ∧ gf < w6.heap.size) ∧ Below w6.heap.size w6 W.drew := ⟨h.1, h.2.trans (Below.refl _ _).drew⟩
theorem d_alloc {w6 W : World} {gf : Nat} {v : Value} {o : Obj} (h : (W.cell? ⟨gf, 1, none⟩ = some v ∧ gf < w6.heap.size) ∧ Below w6.heap.size w6 W) : ((W.alloc o).cell? ⟨gf, 1, none⟩ = some v ∧ gf < w6.heap.size) ∧ Below w6.heap.size w6 (W.alloc o) := by
  have hb : Below w6.heap.size W (W.alloc o) := (Below.refl _ _).alloc h.2.size _
  exact ⟨⟨(hb.cell (p := ⟨gf, 1, none⟩) h.1.2).trans h.1.1, h.1.2⟩, h.2.trans hb⟩
/-- What Read left, in a variable. -/
def DSaid (w6 : World) (R : Tx.Run) (s : Value) (w' : World) : Prop := ∃ gd Ap capp, s = .pointer (some ⟨gd, 0, none⟩) ∧ w6.heap.size ≤ gd ∧ FiIs w' gd R.n R.begun (.slice Ap R.pairs.length capp) (R.fEnd 0 0) R.eEnd ∧ w'.ownsRow w6.heap.size 76 2 (.slice Ap R.pairs.length capp) R.pairs.length (pcs R.pairs) ∧ Below w6.heap.size w6 w'
theorem dA {w6 w' : World} {R : Tx.Run} {b : Nat} {Ap : Option Addr} {capp : Nat} (hs : Below w6.heap.size w6 w') (ho : w'.ownsRow b 76 2 (.slice Ap R.pairs.length capp) R.pairs.length (pcs R.pairs)) (hb : w6.heap.size ≤ b) :
    DSaid w6 R (.pointer (some ⟨w'.heap.size, 0, none⟩)) (w'.alloc (.cells #[.int .i64 R.n, .bool R.begun, .slice Ap R.pairs.length capp, .int .i64 (R.fEnd 0 0), .int .i64 R.eEnd] 88)) :=
  ⟨w'.heap.size, Ap, capp, rfl, hs.size, heap_alloc_new _ _, own_base_s (own_below_s ho ((Below.refl w'.heap.size w').alloc (Nat.le_refl _) _) (Nat.le_refl _)) hb, hs.alloc hs.size _⟩
theorem dB {w6 w' : World} {R : Tx.Run} {b : Nat} {Ap : Option Addr} {capp : Nat} (hs : Below (w6.alloc (.cells #[.int .i64 0, .bool false, .slice none 0 0, .int .i64 0, .int .i64 0] 88)).drew.heap.size (w6.alloc (.cells #[.int .i64 0, .bool false, .slice none 0 0, .int .i64 0, .int .i64 0] 88)).drew w') (ho : w'.ownsRow b 76 2 (.slice Ap R.pairs.length capp) R.pairs.length (pcs R.pairs)) (hb : w6.heap.size + 1 ≤ b) :
    DSaid w6 R (.pointer (some ⟨w6.heap.size, 0, none⟩)) (((((w'.setCell ⟨w6.heap.size, 0, none⟩ (.int .i64 R.n)).setCell ⟨w6.heap.size, 1, none⟩ (.bool R.begun)).setCell ⟨w6.heap.size, 2, none⟩ (.slice Ap R.pairs.length capp)).setCell ⟨w6.heap.size, 3, none⟩ (.int .i64 (R.fEnd 0 0))).setCell ⟨w6.heap.size, 4, none⟩ (.int .i64 R.eEnd)) := by
  have hf0 : FiIs (w6.alloc (.cells #[.int .i64 0, .bool false, .slice none 0 0, .int .i64 0, .int .i64 0] 88)).drew w6.heap.size 0 false (.slice none 0 0) 0 0 := heap_alloc_new _ _
  have hf1 := hf0.below hs hf0.lt
  have hfin := fin_file hf1 R.n R.begun (.slice Ap R.pairs.length capp) (R.fEnd 0 0) R.eEnd
  have hb0 : Below w6.heap.size w6 (w6.alloc (.cells #[.int .i64 0, .bool false, .slice none 0 0, .int .i64 0, .int .i64 0] 88)).drew := ((Below.refl _ _).alloc (Nat.le_refl _) _).drew
  have hsz : w6.heap.size ≤ (w6.alloc (.cells #[.int .i64 0, .bool false, .slice none 0 0, .int .i64 0, .int .i64 0] 88)).drew.heap.size := hb0.size
  refine ⟨w6.heap.size, Ap, capp, rfl, Nat.le_refl _, hfin.1, own_base_s (own_keep_s ho hfin.2 (fun g hg hm => by have := (own_blk ho hg).1; simp at hm; omega)) (by omega), (hb0.trans (hs.mono hsz)).trans (hfin.2.below (Nat.le_trans hsz hs.size) (by simp))⟩
set_option maxHeartbeats 8000000 in
set_option maxRecDepth 40000 in
theorem feed_live (gf gs : Nat) (ks : List Nat) (c : List (BitVec 8)) (A : Option Addr) (n cap B : Nat) (cs : List (BitVec 8)) (w : World) (hl : FeLive w gf gs ks c) (hc : c.length ≤ 200000)
    (hn : n = cs.length) (hm : n ≤ 65536) (hcap : n ≤ cap) (hcm : cap ≤ maxLen) (hnil : A = none → n = 0 ∧ cap = 0) (hB : B ≤ w.heap.size) (hks : ∀ w', Keep ks w w' → Rd w' B A (cs.map V8)) (hr : Rd w B A (cs.map V8)) :
    Calls Tryd.prog 22 #[.pointer (some ⟨gf, 0, none⟩), .slice A n cap] w (FeedSaid gf gs ks c n w) := by
  have hmem := hl.mem
  obtain ⟨Af, capf, Ar, capr, h1, h2, h3, h4, h5, h6, hkse⟩ := hl
  have Hn := Lib.hid hn; have Hnil := Lib.hid hnil; have Hr := Lib.hid hr; have Hks := Lib.hid hks; have Hmem := Lib.hid hmem; have H1 := Lib.hid h1; have H2 := Lib.hid h2; have H3 := Lib.hid h3; have H4 := Lib.hid h4; have H5 := Lib.hid h5; have H6 := Lib.hid h6; have Hkse := Lib.hid hkse; have Hcm := Lib.hid hcm
  have hgf := h1.lt; have hgs := h2.lt
  have Hne := Lib.hid (show gf ≠ gs by
    rintro rfl
    unfold FeIs at h1; unfold EdIs at h2
    rw [h1] at h2; injection h2 with h2; injection h2 with _ h2; exact absurd h2 (by decide))
  clear hn hnil hr hks hmem h1 h2 h3 h4 h5 h6 hkse
  go_enter Tryd.func22, Tryd.ntmps22
  go_wp2_with fail
  refine (room_calls A n cap B cs w Hn.out (by omega) Hnil.out hB Hr.out).mono ?_
  rintro en w1 ⟨g1, cap1, rfl, hc1, hcm1, hg1, hown1, hb1⟩
  have hz1 := hb1.size
  unfold maxLen at hcm1
  have F1 := Lib.hid (H1.out.below hb1 hgf); have E1 := Lib.hid (H2.out.below hb1 hgs); have O3 := Lib.hid (own_below H3.out hb1 (Nat.le_refl _)); have O4 := Lib.hid (own_below H4.out hb1 (Nat.le_refl _))
  have Hown1 := Lib.hid hown1; have Hb1 := Lib.hid hb1
  have hx1 := own_rd hown1
  have Hx1 := Lib.hid (show Rd w1 w1.heap.size (some ⟨g1, 0, none⟩) (cs.map V8) from fun k v hv => hx1 k v (by
    rw [List.map_append, List.getElem?_append_left (List.getElem?_eq_some_iff.1 hv).1]; exact hv))
  have hg1l : g1 < w1.heap.size := (own_blk hown1 (g := g1) rfl).2
  clear hown1 hb1 hx1
  have hwt := Tx.whole_tail_length c
  have hkc := Tx.run_k 0 false (Tx.whole c)
  have hwt2 := Tx.whole_tail_length (Tx.tail c ++ cs)
  have Hfe := Lib.hid (Feed_calls gs Ar (Tx.tail c).length capr 0 (Tx.tail c) (Tx.runW c).k 0 (Tx.runW c).n (Tx.runW c).begun (some ⟨g1, 0, none⟩) n (n + 3) w1.heap.size cs w1.drew E1.out O4.out
    (own_ne_ed O4.out E1.out (by decide)) (by omega) Hn.out (by omega) (by omega) (by intro h; cases h) (Nat.le_refl _) Hx1.out (by omega) (by omega) (by show ((Tx.run 0 false (Tx.whole c)).k : Int) ≤ _; omega))
  have f0 := F1.out.c0
  have i1 : (n : Int) ≤ (n : Int) + 3 := by omega
  have i2 : (n : Int) + 3 ≤ (cap1 : Int) := by omega
  have i3 : (n : Int) ≤ (cap1 : Int) := by omega
  clear hwt hkc hwt2
  have Hg3 := Lib.hid (show gf ∉ gs :: (Value.slice Ar (Tx.tail c).length capr).ownBlock.toList from fun hm => by
    rcases List.mem_cons.1 hm with h | h
    · exact Hne.out h
    · obtain ⟨g, hg⟩ : ∃ g, (Value.slice Ar (Tx.tail c).length capr).ownBlock = some g := ⟨gf, by simpa using h⟩
      have he : g = gf := by rw [hg] at h; simp at h; exact h.symm
      subst he
      rcases O4.out.2 with ⟨hv, _⟩ | ⟨g', _, _, hv, _, hh, _⟩
      · rw [hv] at hg; cases hg
      · rw [hv] at hg; injection hg with hg; simp only at hg; subst hg
        have := F1.out; unfold FeIs at this
        rw [this] at hh; injection hh with hh; injection hh with _ hh; exact absurd hh (by decide))
  go_wp2_with fail
  have hst : (w1.cell? ⟨gf, 0, none⟩ = some (.pointer (some ⟨gs, 0, none⟩)) ∧ True) ∧ True := ⟨⟨f0, trivial⟩, trivial⟩
  go_region_held3 (fun w' => (w'.cell? ⟨gf, 0, none⟩ = some (.pointer (some ⟨gs, 0, none⟩)) ∧ True) ∧ True)
    ((rename (_ ∧ _) ∧ _ => hS; first | exact hS | exact ⟨⟨hS.1.1, trivial⟩, trivial⟩))
    ((go_at_call 39; rename (_ ∧ _) ∧ _ => hS; refine (Hfe.out).mono ?_; rintro e w2 ⟨Al, capl, rfl, hl2, hk2, hcase⟩; have Hl2 := Lib.hid hl2; have Hk2 := Lib.hid hk2; have Hcase := Lib.hid hcase; have hS9 : (w2.cell? ⟨gf, 0, none⟩ = some (.pointer (some ⟨gs, 0, none⟩)) ∧ True) ∧ True := ⟨⟨(F1.out.keep ⟨hk2.os, hk2.tape, hk2.output, hk2.size, hk2.block⟩ Hg3.out).c0, trivial⟩, trivial⟩; clear hl2 hk2 hcase))
  (try simp only [Exit.then])
  have Hon := Lib.hid (Tx.runW_on cs H6.out)
  have Htl := Lib.hid (Tx.tail_append c cs)
  have hXp := Tx.run_e_pairs (Tx.runW c).n (Tx.runW c).begun (Tx.whole (Tx.tail c ++ cs))
  have hXk := Tx.run_k (Tx.runW c).n (Tx.runW c).begun (Tx.whole (Tx.tail c ++ cs))
  have hwt := Tx.whole_tail_length c
  have hwt2 := Tx.whole_tail_length (Tx.tail c ++ cs)
  have hPc := Tx.run_e_pairs 0 false (Tx.whole c)
  have hPk := Tx.run_k 0 false (Tx.whole c)
  rw [List.length_append, ← Hn.out] at hwt2
  have hP1 : (Tx.runW c).pairs.length ≤ 200000 := by show (Tx.run 0 false (Tx.whole c)).pairs.length ≤ _; omega
  have hXl : (Tx.run (Tx.runW c).n (Tx.runW c).begun (Tx.whole (Tx.tail c ++ cs))).pairs.length ≤ 270000 := by omega
  clear hXp hXk hwt hwt2 hPc hPk
  generalize Tx.run (Tx.runW c).n (Tx.runW c).begun (Tx.whole (Tx.tail c ++ cs)) = X at *
  obtain ⟨Xp, Xe, Xk, Xn, Xb⟩ := X
  dsimp only at Hl2 Hcase Hon hXl ⊢
  have hk2 := Hk2.out
  have hk2' : Keep (gs :: (Value.slice Ar (Tx.tail c).length capr).ownBlock.toList) w1 w2 := ⟨hk2.os, hk2.tape, hk2.output, hk2.size, hk2.block⟩
  have hsub : ∀ k, k ∈ gs :: (Value.slice Ar (Tx.tail c).length capr).ownBlock.toList → k ∈ ks := fun k hk => by
    rw [Hkse.out]
    rcases List.mem_cons.1 hk with h | h
    · simp [h]
    · exact List.mem_cons_of_mem _ (List.mem_cons_of_mem _ (List.mem_append_right _ h))
  have hz2 := hk2'.size
  have hKW2 : Keep ks w w2 := (keep_of_lt Hb1.out).trans (hk2'.more fun k _ hk => hsub k hk)
  have F2 := Lib.hid (F1.out.keep hk2' Hg3.out)
  have hfb : ∀ g, (Value.slice Af c.length capf).ownBlock = some g → g ∉ gs :: (Value.slice Ar (Tx.tail c).length capr).ownBlock.toList := fun g hg hm => by
    rcases List.mem_cons.1 hm with h | h
    · have := own_ne_ed O3.out E1.out (by decide)
      cases Af with
      | none => cases hg
      | some a => injection hg with hg; exact this a rfl (by rw [hg, h])
    · exact H5.out g hg (by simpa using h)
  have O32 := Lib.hid (own_keep O3.out hk2' hfb)
  have hgk : g1 ∉ gs :: (Value.slice Ar (Tx.tail c).length capr).ownBlock.toList := fun hm => by
    have := Hmem.out g1 (hsub _ hm); omega
  have Hown2 := Lib.hid (own_keep Hown1.out hk2' (fun g hg hm => by injection hg with hg; simp only at hg; subst hg; exact hgk hm))
  have Hr2 := Lib.hid (Hks.out w2 hKW2)
  have KW2 := Lib.hid hKW2
  clear hst hk2 hk2' hsub hKW2 hfb hgk Hfe f0
  go_wp2_with fail
  refine (room_calls A n cap B cs w2 Hn.out (by omega) Hnil.out (by omega) Hr2.out).mono ?_
  rintro en w3 ⟨g3, cap3, rfl, hc3, hcm3, hg3, hown3, hb3⟩
  have hz3 := hb3.size
  have Hsb := Lib.hid (sameB_eq (some ⟨g1, 0, none⟩) (some ⟨g3, 0, none⟩) (n + 3) cap1 cap3 _ _ (cs ++ rm3) w3 (by rw [List.length_append, ← Hn.out]; rfl) (by intro h; cases h) (by intro h; cases h) ((own_rd Hown2.out).below hb3 (Nat.le_refl _)) (own_rd hown3))
  have F3 := Lib.hid (F2.out.below hb3 F2.out.lt); have O33 := Lib.hid (own_below O32.out hb3 (Nat.le_refl _)); have Hown3 := Lib.hid (own_below Hown2.out hb3 (Nat.le_refl _)); have Hr3 := Lib.hid (Hr2.out.below hb3 (by omega)); have KW3 := Lib.hid (KW2.out.trans (keep_of_lt hb3)); have Hb23 := Lib.hid hb3
  clear hown3 hb3 F2 O32 Hown2 Hr2 KW2
  go_wp2_with fail
  refine (Hsb.out).mono ?_
  rintro en w9 ⟨rfl, rfl⟩
  clear Hsb
  go_wp2_with fail
  go_loopw [10] (fun iv wr => ∃ (a : Nat) (X : List (BitVec 8)), iv = .int .i64 (a : Int) ∧ a ≤ n + 3 ∧ wr.ownsRow w.heap.size 5 1 (.slice (some ⟨g1, 0, none⟩) (n + 3) cap1) (n + 3) (X.map V8) ∧ Keep [g1] w3 wr) (fun iv _ => n + 3 - (intOf iv).toNat)
  case atStart => exact ⟨0, _, rfl, by omega, Hown3.out, Keep.refl _ _⟩
  case round =>
    obtain ⟨a, X, rfl, ha, hown, hk⟩ := hrel
    have Hown := Lib.hid hown; have Hk := Lib.hid hk
    have hkz := hk.size
    clear hown hk
    by_cases hlt : a < n + 3
    · have q1 : (a : Int) < (n : Int) + 3 := by omega
      obtain ⟨v, hv⟩ := Hown.out.1 |> fun h => (show ∃ v, (X.map V8)[a]? = some v from ⟨(X.map V8)[a]'(by rw [h]; omega), List.getElem?_eq_getElem _⟩)
      obtain ⟨b, off, he, hb, hcell⟩ := own_rd Hown.out a v hv
      injection he with he; injection he with e1 e2; subst e1 e2
      rw [Nat.zero_add] at hcell
      have hfz : wr.frozen? ⟨g1, a, none⟩ = false := Hown.out.frozenAt a
      clear hv
      go_wp2_with fail
      go_roundw
      case rel =>
        refine ⟨a + 1, X.set a 57#8, by congr 1, by omega, ?_, Hk.out.trans (Keep.set wr a _)⟩
        have := (Hown.out.stored a (V8 57#8)).1
        rw [List.map_set]
        exact this
      case measure => simp [intOf]; omega
    · obtain rfl : a = n + 3 := by omega
      have F4 := Lib.hid (F3.out.keep Hk.out (by have := hgf; simp; omega))
      have O34 := Lib.hid (own_keep O33.out Hk.out (fun g hg hm => by have := (own_blk O3.out hg).2; have h9 := Hmem.out g (by rw [Hkse.out]; simp [hg]); simp at hm; omega))
      have Hr4 := Lib.hid (rd_over Hr3.out (by omega) Hk.out (fun x hx => by simp at hx; omega))
      have KW4 := Lib.hid (keep_over KW3.out Hk.out (fun x hx => by simp at hx; omega))
      have hHk := Hk.out
      have Hk4 := Lib.hid hHk
      have c3 := F4.out.c3; have c1 := F4.out.c1; have z1 := F4.out.f 1
      clear hHk Hown Hk F3 O33 Hr3 KW3
      obtain ⟨i8, h8, h80, h81, h82⟩ := info_parts infoU8
      have H8 := Lib.hid h8
      clear h8
      go_wp2_with (at_builtin; refine wpList_append_rd_at rfl _ _ 27 rfl 0 5 i8 _ 1 descU8s H8.out h80 h81 h82 rfl _ c.length (c.map V8) rfl O34.out B A n cap (cs.map V8) rfl (by rw [List.length_map]; exact Hn.out) Hnil.out Hr4.out (v8_one cs) (by unfold maxLen; omega) (by omega) (Nat.zero_le _) ?_; intro v5 w5 hown5 hg5 hat5; obtain ⟨A5, cap5, rfl, hc5a, hc5b, _⟩ := own_form hown5; have Hown5 := Lib.hid hown5; have Hg5 := Lib.hid (show Keep ((Value.slice Af c.length capf).ownBlock.toList) wr w5 from Keep.grown hg5); have Hat5 := Lib.hid hat5; have F5 := Lib.hid (F4.out.keep Hg5.out (fun hm => by
        obtain ⟨g, hg⟩ : ∃ g, (Value.slice Af c.length capf).ownBlock = some g := ⟨gf, by simpa using hm⟩
        have he : g = gf := by rw [hg] at hm; simp at hm; exact hm.symm
        subst he
        rcases O34.out.2 with ⟨hv, _⟩ | ⟨g', _, _, hv, _, hh, _⟩
        · rw [hv] at hg; cases hg
        · rw [hv] at hg; injection hg with hg; simp only at hg; subst hg
          have := F4.out; unfold FeIs at this
          rw [this] at hh; injection hh with hh; injection hh with _ hh; exact absurd hh (by decide))); have d1 := F5.out.c1; have y1 := F5.out.f 1; clear hown5 hg5 hat5)
      have hne5 : ∀ g, (Value.slice A5 (c.length + n) cap5).ownBlock = some g → g ≠ gf := fun g hg he => by
        subst he
        rcases Hown5.out.2 with ⟨hv, _⟩ | ⟨g', _, _, hv, _, hh, _⟩
        · rw [hv] at hg; cases hg
        · rw [hv] at hg; injection hg with hg; simp only at hg; subst hg
          have := F5.out; unfold FeIs at this
          rw [this] at hh; injection hh with hh; injection hh with _ hh; exact absurd hh (by decide)
      have hk6 : Keep [gf] w5 (w5.setCell ⟨gf, 1, none⟩ (.slice A5 (c.length + n) cap5)) := Keep.set w5 1 _
      have hf6 := F5.out.s1 (.slice A5 (c.length + n) cap5)
      have ho6 := own_keep Hown5.out hk6 (fun g hg hm => hne5 g hg (by simpa using hm))
      rw [← List.map_append] at ho6
      generalize w5.setCell ⟨gf, 1, none⟩ (.slice A5 (c.length + n) cap5) = w6 at *
      have F6 := Lib.hid hf6; have O6 := Lib.hid ho6; have Hk6 := Lib.hid hk6; have Hne5 := Lib.hid hne5
      obtain ⟨T, hT⟩ : ∃ T, T = c ++ cs := ⟨_, rfl⟩
      have hTl : c.length + n = T.length := by rw [hT, List.length_append, ← Hn.out]
      rw [← hT] at Hon O6
      have HT := Lib.hid hT; have HTl := Lib.hid hTl
      have Rt6 := Lib.hid (show Rd w6 w6.heap.size A5 (T.map V8) by rw [hT]; exact own_rd ho6)
      have d6 := hf6.c1
      have Hn5 := Lib.hid (own_nil ho6)
      clear hne5 hk6 hf6 ho6 hT hTl d1 y1 c3 c1 z1
      have hst : (w6.cell? ⟨gf, 1, none⟩ = some (.slice A5 (c.length + n) cap5) ∧ gf < w6.heap.size) ∧ Below w6.heap.size w6 w6 := ⟨⟨d6, F6.out.lt⟩, Below.refl _ _⟩
      go_cut [11] (DSaid w6 (Tx.runW T))
      case first =>
        go_region_held3 (fun w' => (w'.cell? ⟨gf, 1, none⟩ = some (.slice A5 (c.length + n) cap5) ∧ gf < w6.heap.size) ∧ Below w6.heap.size w6 w')
          ((rename (_ ∧ _) ∧ Below _ _ _ => hS; first
            | (with_reducible exact hS)
            | (with_reducible exact d_drew hS)
            | (with_reducible exact d_alloc hS)
            | (with_reducible exact d_alloc (by assumption))
            | (with_reducible exact d_drew (d_alloc hst))
            | (with_reducible exact d_drew (d_alloc (by assumption)))
            | (with_reducible refine d_set5 hS ?_; (have hS2 := hS.2.size; omega))))
          ((first
            | (go_at_call 46; rename (_ ∧ _) ∧ Below _ _ _ => hS; refine (whole_calls A5 (c.length + n) cap5 w6.heap.size T _ HTl.out (by omega) (Rt6.out.below hS.2 (Nat.le_refl _))).mono ?_; rintro e w' ⟨⟨i, rfl, hwa⟩, rfl⟩; have Hwa := Lib.hid hwa; have il := hwa.le; have hTl2 := HTl.out; have il2 : (i : Int) ≤ (cap5 : Int) := (by omega); have il3 : (0 : Int) ≤ (i : Int) := (by omega); clear hwa hTl2)
            | (go_at_call 45; rename (_ ∧ _) ∧ Below _ _ _ => hS; have hrd := Read_calls A5 i cap5 w6.heap.size (T.take i) _ (by rw [List.length_take]; omega) (by have := HTl.out; omega) (by omega) (by unfold maxLen at hc5b; omega) (fun h => ⟨by have := (Hn5.out h).1; have := HTl.out; omega, (Hn5.out h).2⟩) hS.2.size (rd_take i (Rt6.out.below hS.2 (Nat.le_refl _))); rw [Tx.all_whole Hwa.out] at hrd; refine hrd.mono ?_; rintro e w' ⟨Ap, capp, rfl, hownp, hbp⟩; have Hownp := Lib.hid hownp; have Hbp := Lib.hid hbp; obtain ⟨hbc1, hbc2⟩ := bcell hbp; have hS9 : (w'.cell? ⟨gf, 1, none⟩ = some (.slice A5 (c.length + n) cap5) ∧ gf < w6.heap.size) ∧ Below w6.heap.size w6 w' := ⟨⟨(hbp.cell (p := ⟨gf, 1, none⟩) (Nat.lt_of_lt_of_le hS.1.2 hS.2.size)).trans hS.1.1, hS.1.2⟩, hS.2.trans (hbp.mono hS.2.size)⟩; clear hrd hownp hbp)))
        all_goals
          rename (_ ∧ _) ∧ Below _ _ _ => hX
          have HS9 := Lib.hid hS9
          clear hbc1 hbc2 hS9 hX hst d6
          go_wp2_with fail
          go_meet
          first
            | (with_reducible refine dB Hbp.out Hownp.out ?_; simp; done)
            | (refine dA HS9.out.2 Hownp.out ?_; exact Nat.le_refl _)
      case rest =>
        obtain ⟨gd, Ap, capp, rfl, hgd, hfi, hop, hb7⟩ := hcut
        have hO := Hon.out
        have hfz := Tx.fEnd_zero (n := 0) (b := false) (ls := Tx.whole T)
        have hn0 := Tx.run_n0 (Tx.whole T)
        have hNB : Xn = if Xb then Xn else 0 := by
          cases hb : Xb with
          | true => rfl
          | false =>
            have h1 : (Tx.runW T).begun = false := by rw [hO]; exact hb
            have h2 : (Tx.runW T).n = 0 := hn0 h1
            rw [hO] at h2; simpa using h2
        have hEE : Xe ≠ 0 → (Tx.runW T).eEnd = Xe := fun h => by unfold Tx.Run.eEnd; rw [hO]; dsimp only; rw [if_pos h]
        have hFF0 : Xe = 0 → (Tx.runW T).fEnd 0 0 = 0 := fun h => by
          refine (hfz.1).2 ?_
          show (Tx.runW T).e = 0
          rw [hO]; exact h
        have hFF1 : Xe ≠ 0 → (Tx.runW T).fEnd 0 0 = ((Tx.runW c).k : Int) + Xk ∧ (Tx.runW T).fEnd 0 0 ≠ 0 := fun h => by
          have he : (Tx.run 0 false (Tx.whole T)).e ≠ 0 := by show (Tx.runW T).e ≠ 0; rw [hO]; exact h
          have h2 := hfz.2 he
          refine ⟨?_, fun h3 => he (hfz.1.1 h3)⟩
          show (Tx.run 0 false (Tx.whole T)).fEnd 0 0 = _
          rw [h2]
          show (((Tx.runW T).k : Nat) : Int) = _
          rw [hO]; simp
        rw [show (Tx.runW T).n = Xn by rw [hO], show (Tx.runW T).begun = Xb by rw [hO]] at hfi
        have hPT : (Tx.runW T).pairs = (Tx.runW c).pairs ++ Xp := by rw [hO]
        generalize (Tx.runW T).fEnd 0 0 = F at *
        generalize (Tx.runW T).eEnd = E at *
        obtain ⟨PT, hPTe⟩ : ∃ P, P = (Tx.runW T).pairs := ⟨_, rfl⟩
        rw [← hPTe] at hfi hop hPT
        have hPl : PT.length - (Tx.runW c).pairs.length = Xp.length := by rw [hPT, List.length_append]; omega
        have hPl2 : PT.length = (Tx.runW c).pairs.length + Xp.length := by rw [hPT, List.length_append]
        have hPd : PT.drop (Tx.runW c).pairs.length = Xp := by rw [hPT, List.drop_left]
        have hlb : ∀ g, (Value.slice Al Xp.length capl).ownBlock = some g → w1.heap.size ≤ g := fun g hg => (own_blk Hl2.out hg).1
        have hfl : ∀ g, (Value.slice Af c.length capf).ownBlock = some g → g < w.heap.size := fun g hg => Hmem.out g (by rw [Hkse.out]; simp [hg])
        have OL : wc.ownsRow 0 76 2 (.slice Al Xp.length capl) Xp.length (pcs Xp) :=
          own_below_s (own_keep_s (own_keep_s (own_keep_s (own_below_s (own_base_s Hl2.out (Nat.zero_le _)) Hb23.out (Nat.le_refl _)) Hk4.out (fun g hg hm => by have := hlb g hg; simp at hm; omega))
            Hg5.out (fun g hg hm => by have := hlb g hg; have := hfl g (by simpa using hm); omega)) Hk6.out (fun g hg hm => by have := hlb g hg; simp at hm; omega)) hb7 (Nat.le_refl _)
        have hEd2 : ∃ rv L ee, EdIs w2 gs rv L F Xn Xb ee ∧ (Xe = 0 → ee = false) := by
          rcases Hcase.out with ⟨h, Ar2, capr2, h1, _⟩ | ⟨h, rv, h1⟩
          · have hF := hFF0 h
            subst hF
            exact ⟨_, _, false, h1, fun _ => rfl⟩
          · have hF := (hFF1 h).1
            subst hF
            exact ⟨rv, _, true, h1, fun h2 => absurd h2 h⟩
        obtain ⟨rv2, L2, ee2, hEd2, hee2⟩ := hEd2
        have hgs2 : gs ∉ (Value.slice Af c.length capf).ownBlock.toList := fun hm => by
          have := own_ne_ed H3.out H2.out (by decide)
          cases Af with
          | none => simp [Value.ownBlock] at hm
          | some a => simp [Value.ownBlock] at hm; exact this a rfl hm.symm
        have keepS : ∀ (rv : Value) (L F' N' : Int) (b' e' : Bool), EdIs w2 gs rv L F' N' b' e' → EdIs wc gs rv L F' N' b' e' := fun rv L F' N' b' e' h =>
          ((((h.below Hb23.out h.lt).keep Hk4.out (by simp; omega)).keep Hg5.out hgs2).keep Hk6.out (by have := Hne.out; simp; exact fun h => this h.symm)).below hb7 (by have := Hk6.out.size; have := Hg5.out.size; have := Hk4.out.size; have := Hb23.out.size; omega)
        have hEdc := keepS _ _ _ _ _ _ hEd2
        have Fc := F6.out.below hb7 F6.out.lt
        have Htl2 := tells_calls gf (.pointer (some ⟨gs, 0, none⟩)) (.slice A5 (c.length + n) cap5) (Tx.runW c).pairs.length Al capl Xe Xn Xb Ap capp F E PT wc.heap.size wc.heap.size wc.drew Fc (by omega) (by omega) (by rw [hPl]; exact (own_cap_s OL).1) (own_cap_s OL).2 (own_cap_s hop).1 (own_cap_s hop).2 (fun h => own_nil_s hop h) (by rw [hPd]; exact own_rd_s OL) (own_rd_s hop)
        rw [hPl] at Htl2
        have HTl2 := Lib.hid Htl2
        have HFF0 := Lib.hid hFF0; have HFF1 := Lib.hid hFF1; have HEE := Lib.hid hEE; have HNB := Lib.hid hNB; have Hop := Lib.hid hop; have HEdc := Lib.hid hEdc; have HFc := Lib.hid Fc; have Hfi := Lib.hid hfi; have Hb7 := Lib.hid hb7; have HPT := Lib.hid hPTe; have HPl2 := Lib.hid hPl2; have Hgs2 := Lib.hid hgs2; have HkS := Lib.hid keepS; have Hfl := Lib.hid hfl
        have p0 := hfi.c0; have p1 := hfi.c1; have p2 := hfi.c2; have p3 := hfi.c3; have p4 := hfi.c4
        have hgdl := hfi.lt
        have hgdf : gd ≠ gf := by
          rintro rfl
          have h8 := Fc; unfold FeIs at h8
          unfold FiIs at hfi
          rw [hfi] at h8; injection h8 with h8; injection h8 with _ h8; exact absurd h8 (by decide)
        have Hgdf := Lib.hid hgdf
        clear hO hfz hn0 hNB hEE hFF0 hFF1 hPT hPTe hPl hPl2 hPd hlb hfl OL hEd2 hee2 hgs2 keepS hEdc Fc Htl2 hop hfi hb7 hst d6 hgdf
        go_upto_if 83 with fail
        go_cut [12] (fun s w' => s = .int .i64 Xe ∧ wc = w')
        case first =>
          by_cases he : Xe = 0
          · have hF := HFF0.out he
            subst he hF
            go_wp2_with fail
            go_meet
            exact ⟨rfl, rfl⟩
          · have hF := (HFF1.out he).2
            have hE := HEE.out he
            have t9 : (F == 0) = false := by simpa using hF
            subst hE
            clear he hF
            go_wp2_with fail
            go_meet
            exact ⟨rfl, rfl⟩
        case rest =>
          obtain ⟨rfl, rfl⟩ := hcut
          go_wp2_with fail
          have hst : ((wc.cell? ⟨gd, 0, none⟩ = some (.int .i64 Xn) ∧ wc.cell? ⟨gd, 1, none⟩ = some (.bool Xb)) ∧ (wc.cell? ⟨gd, 2, none⟩ = some (.slice Ap PT.length capp) ∧ wc.cell? ⟨gd, 3, none⟩ = some (.int .i64 F))) ∧ wc.cell? ⟨gd, 4, none⟩ = some (.int .i64 E) := ⟨⟨⟨p0, p1⟩, p2, p3⟩, p4⟩
          go_region_held3 (fun w' => ((w'.cell? ⟨gd, 0, none⟩ = some (.int .i64 Xn) ∧ w'.cell? ⟨gd, 1, none⟩ = some (.bool Xb)) ∧ (w'.cell? ⟨gd, 2, none⟩ = some (.slice Ap PT.length capp) ∧ w'.cell? ⟨gd, 3, none⟩ = some (.int .i64 F))) ∧ w'.cell? ⟨gd, 4, none⟩ = some (.int .i64 E))
            ((rename ((_ ∧ _) ∧ _ ∧ _) ∧ _ => hS; first | (with_reducible exact hS) | exact hS))
            ((first
              | (go_at_call 19; refine (num_calls _ _).mono ?_; rintro e w' ⟨rfl, rfl⟩)
              | (go_at_call 47; refine (HTl2.out).mono ?_; rintro e w8 ⟨rfl, hf8, hk8⟩; have Hf8 := Lib.hid hf8; have Hk8 := Lib.hid hk8; have hfi8 : FiIs w8 gd Xn Xb (.slice Ap PT.length capp) F E := FiIs.keep (show FiIs wc.drew gd Xn Xb (.slice Ap PT.length capp) F E from Hfi.out) hk8 (by simp; exact Hgdf.out); have Hfi8 := Lib.hid hfi8; have hS9 : ((w8.cell? ⟨gd, 0, none⟩ = some (.int .i64 Xn) ∧ w8.cell? ⟨gd, 1, none⟩ = some (.bool Xb)) ∧ (w8.cell? ⟨gd, 2, none⟩ = some (.slice Ap PT.length capp) ∧ w8.cell? ⟨gd, 3, none⟩ = some (.int .i64 F))) ∧ w8.cell? ⟨gd, 4, none⟩ = some (.int .i64 E) := ⟨⟨⟨hfi8.c0, hfi8.c1⟩, hfi8.c2, hfi8.c3⟩, hfi8.c4⟩; clear hf8 hk8 hfi8)))
          (try simp only [Exit.then])
          have hk8 : Keep [gf] wc w8 := ⟨Hk8.out.os, Hk8.out.tape, Hk8.out.output, Hk8.out.size, Hk8.out.block⟩
          have hE8 := HEdc.out.keep hk8 (by have := Hne.out; simp; exact fun h => this h.symm)
          have Hst := Lib.hid (stands_calls gf gs _ _ _ rv2 L2 F Xn Xb ee2 Xn Xb (.slice Ap PT.length capp) E w8 Hf8.out hE8 HNB.out)
          have Hk8' := Lib.hid hk8
          have q0 := Hfi8.out.c0; have q1 := Hfi8.out.c1; have q2 := Hfi8.out.c2; have q3 := Hfi8.out.c3; have q4 := Hfi8.out.c4
          clear hk8 hE8 hst hS9 p0 p1 p2 p3 p4
          (rename ((_ ∧ _) ∧ _ ∧ _) ∧ _ => hX; clear hX)
          go_wp2_with fail
          refine (Hst.out).mono ?_
          rintro en w10 ⟨rfl, hb10⟩
          have Hb10 := Lib.hid hb10
          clear hb10 Hst
          go_wp2_with fail
          go_ret
          have s2 := Hb1.out.size; have s3 := Hb23.out.size; have s4 := Hk4.out.size; have s5 := Hg5.out.size; have s6 := Hk6.out.size; have s7 := Hb7.out.size; have s8 := Hk8'.out.size; have s10 := Hb10.out.size
          have hkf : gf ∈ ks := by rw [Hkse.out]; simp
          have hks2 : gs ∈ ks := by rw [Hkse.out]; simp
          have hKW : Keep ks w w10 := by
            refine ((((KW4.out.trans (Hg5.out.more fun k _ hk => ?_)).trans (Hk6.out.more fun k _ hk => by simp at hk; rw [hk]; exact hkf)).trans (keep_of_lt Hb7.out)).trans (Hk8'.out.more fun k _ hk => by simp at hk; rw [hk]; exact hkf)).trans (keep_of_lt Hb10.out)
            rw [Hkse.out]
            exact List.mem_cons_of_mem _ (List.mem_cons_of_mem _ (List.mem_append_left _ hk))
          have hE10 : ∀ (rv : Value) (L F' N' : Int) (b' e' : Bool), EdIs w2 gs rv L F' N' b' e' → EdIs w10 gs rv L F' N' b' e' := fun rv L F' N' b' e' h =>
            ((HkS.out _ _ _ _ _ _ h).keep Hk8'.out (by have := Hne.out; simp; exact fun h => this h.symm)).below Hb10.out (by omega)
          have hF8 : FeIs w8 gf (.pointer (some ⟨gs, 0, none⟩)) (.slice A5 (c.length + n) cap5) ((PT.length : Nat) : Int) (Xe != 0) := Hf8.out
          have hF10 := hF8.below Hb10.out hF8.lt
          refine ⟨by simp, ?_⟩
          by_cases he : Xe = 0
          · subst he
            obtain ⟨Ar2, capr2, hed, hor⟩ : ∃ Ar2 capr2, EdIs w2 gs (.slice Ar2 (Tx.tail (Tx.tail c ++ cs)).length capr2) (((Tx.runW c).k : Int) + Xk) 0 Xn Xb false ∧ w2.ownsRow w1.drew.heap.size 5 1 (.slice Ar2 (Tx.tail (Tx.tail c ++ cs)).length capr2) (Tx.tail (Tx.tail c ++ cs)).length ((Tx.tail (Tx.tail c ++ cs)).map V8) := by
              rcases Hcase.out with ⟨_, Ar2, capr2, h1, h2⟩ | ⟨h, _⟩
              · exact ⟨Ar2, capr2, h1, h2⟩
              · exact absurd rfl h
            have htT : Tx.tail (Tx.tail c ++ cs) = Tx.tail T := by rw [HT.out, Htl.out]
            rw [htT] at hed hor
            have hrb : ∀ g, (Value.slice Ar2 (Tx.tail T).length capr2).ownBlock = some g → w1.heap.size ≤ g ∧ g < w2.heap.size := fun g hg => own_blk hor hg
            have hor10 : w10.ownsRow 0 5 1 (.slice Ar2 (Tx.tail T).length capr2) (Tx.tail T).length ((Tx.tail T).map V8) :=
              own_below (own_keep (own_below (own_keep (own_keep (own_keep (own_below (own_base hor (Nat.zero_le _)) Hb23.out (Nat.le_refl _)) Hk4.out (fun g hg hm => by have := (hrb g hg).1; simp at hm; omega))
                Hg5.out (fun g hg hm => by have := (hrb g hg).1; have := Hfl.out g (by simpa using hm); omega)) Hk6.out (fun g hg hm => by have := (hrb g hg).1; simp at hm; omega)) Hb7.out (Nat.le_refl _)) Hk8'.out (fun g hg hm => by have := (hrb g hg).1; simp at hm; omega)) Hb10.out (Nat.le_refl _)
            have hof10 : w10.ownsRow 0 5 1 (.slice A5 (c.length + n) cap5) (c.length + n) (T.map V8) :=
              own_below (own_keep (own_below O6.out Hb7.out (Nat.le_refl _)) Hk8'.out (fun g hg hm => by have := Hne5.out g hg; simp at hm; exact this hm)) Hb10.out (Nat.le_refl _)
            have hfb : ∀ g, (Value.slice A5 (c.length + n) cap5).ownBlock = some g → (Value.slice Af c.length capf).ownBlock = some g ∨ g = wr.heap.size := fun g hg => by
              rcases Hat5.out with h | h
              · left
                have h' : (Value.slice A5 (c.length + n) cap5).ownBlock = (Value.slice Af c.length capf).ownBlock := h
                rw [← h']; exact hg
              · right
                have h' : (Value.slice A5 (c.length + n) cap5).ownBlock = some wr.heap.size := h
                rw [h'] at hg; injection hg with hg; exact hg.symm
            have hlen : T.length = c.length + n := HTl.out.symm
            rw [← hlen] at hof10 hfb
            have hRk : ((Tx.runW T).k : Int) = ((Tx.runW c).k : Int) + Xk := by rw [Hon.out]; simp
            refine ⟨gf :: gs :: ((Value.slice A5 T.length cap5).ownBlock.toList ++ (Value.slice Ar2 (Tx.tail T).length capr2).ownBlock.toList), T, Or.inl ⟨A5, cap5, Ar2, capr2, ?_, ?_, hof10, hor10, ?_, by rw [Hon.out], rfl⟩, by omega, hKW, ?_⟩
            · have := hF10
              rw [← hlen, HPT.out] at this
              simpa using this
            · rw [hRk, show (Tx.runW T).n = Xn by rw [Hon.out], show (Tx.runW T).begun = Xb by rw [Hon.out]]
              exact hE10 _ _ _ _ _ _ hed
            · intro g h1 h2
              have h3 := hrb g h2
              rcases hfb g h1 with h | h
              · have := Hfl.out g h; omega
              · omega
            · intro k hk
              rcases List.mem_cons.1 hk with h | h
              · left; rw [h]; exact hkf
              · rcases List.mem_cons.1 h with h | h
                · left; rw [h]; exact hks2
                · rcases List.mem_append.1 h with h | h
                  · rcases hfb k (by simpa using h) with h | h
                    · left; rw [Hkse.out]; simp [h]
                    · right; omega
                  · right
                    have := (hrb k (by simpa using h)).1
                    omega
          · obtain ⟨rv, hed⟩ : ∃ rv, EdIs w2 gs rv (((Tx.runW c).k : Int) + Xk) (((Tx.runW c).k : Int) + Xk) Xn Xb true := by
              rcases Hcase.out with ⟨h, _⟩ | ⟨_, h⟩
              · exact absurd h he
              · exact h
            have hne : (Xe != 0) = true := by simpa using he
            rw [hne] at hF10
            refine ⟨[gf, gs], T, Or.inr ⟨_, _, rv, _, _, _, _, hF10, hE10 _ _ _ _ _ _ hed, rfl⟩, by have := HTl.out; omega, hKW, ?_⟩
            intro k hk
            simp at hk
            rcases hk with rfl | rfl
            · exact Or.inl hkf
            · exact Or.inl hks2
end Go.Proofs.YtgoobadkbndfgaaDoor
