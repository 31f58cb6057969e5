/- two feeders side by side -/
import Derived.Test.YtgoobadkbndfgaaDoorFdC
namespace Go.Proofs.YtgoobadkbndfgaaDoor
open Go.RowKit
set_option linter.unusedSimpArgs false
set_option linter.unusedVariables false
/-- Two feeders in a world that has grown from w0. -/
def FR (w0 w : World) (gx sx gy sy bx b2 : Nat) : Prop := ∃ kx cx ky cy, Fe w gx sx kx cx ∧ Fe w gy sy ky cy ∧ (∀ k ∈ kx, k ∉ ky) ∧ (∀ k ∈ kx, w0.heap.size ≤ k) ∧ (∀ k ∈ ky, w0.heap.size ≤ k) ∧ cx.length ≤ bx ∧ cy.length ≤ b2 ∧ Below w0.heap.size w0 w
theorem FR.symm {w0 w : World} {gx sx gy sy bx b2 : Nat} (h : FR w0 w gx sx gy sy bx b2) : FR w0 w gy sy gx sx b2 bx := by
  obtain ⟨kx, cx, ky, cy, h1, h2, h3, h4, h5, h6, h7, h8⟩ := h
  exact ⟨ky, cy, kx, cx, h2, h1, fun k hk hm => h3 k hm hk, h5, h4, h7, h6, h8⟩
theorem FR.said {w0 w w' : World} {gx sx gy sy bx b2 m : Nat} {kx : List Nat} {cx : List (BitVec 8)} {en : Ending} {ky : List Nat} {cy : List (BitVec 8)} (h2 : Fe w gy sy ky cy) (h1 : Fe w gx sx kx cx) (h3 : ∀ k ∈ kx, k ∉ ky) (h4 : ∀ k ∈ kx, w0.heap.size ≤ k) (h5 : ∀ k ∈ ky, w0.heap.size ≤ k) (h6 : cx.length ≤ bx) (h7 : cy.length ≤ b2) (h8 : Below w0.heap.size w0 w)
    (hs : FeedSaid gx sx kx cx m w en w') : en = .returned (.bool true) ∧ FR w0 w' gx sx gy sy (bx + m) b2 ∧ Below w0.heap.size w w' := by
  obtain ⟨he, ks', c', g1, g2, g3, g4⟩ := hs
  have hb : Below w0.heap.size w w' := g3.below h8.size h4
  refine ⟨he, ⟨ks', c', ky, cy, g1, h2.keep g3 (fun k hk hm => h3 k hm hk), ?_, ?_, h5, by omega, h7, h8.trans hb⟩, hb⟩
  · intro k hk hm
    rcases g4 k hk with h | h
    · exact h3 k h hm
    · have := h2.mem k hm; omega
  · intro k hk
    rcases g4 k hk with h | h
    · exact h4 k h
    · have := h8.size; omega
theorem fr_feed {w0 w : World} {gx sx gy sy bx b2 : Nat} (h : FR w0 w gx sx gy sy bx b2) (hbx : bx ≤ 200000) (A : Option Addr) (n cap : Nat) (cs : List (BitVec 8)) (hn : n = cs.length) (hm : n ≤ 65536) (hcap : n ≤ cap) (hcm : cap ≤ maxLen) (hnil : A = none → n = 0 ∧ cap = 0) (hr : Rd w w0.heap.size A (cs.map V8)) :
    Calls Tryd.prog 22 #[.pointer (some ⟨gx, 0, none⟩), .slice A n cap] w fun en w' => en = .returned (.bool true) ∧ FR w0 w' gx sx gy sy (bx + n) b2 ∧ Below w0.heap.size w w' := by
  obtain ⟨kx, cx, ky, cy, h1, h2, h3, h4, h5, h6, h7, h8⟩ := h
  exact (feed_calls gx sx kx cx A n cap w0.heap.size cs w h1 (by omega) hn hm hcap hcm hnil h8.size (fun w' hk => rd_over hr h8.size hk h4) hr).mono fun en w' hs => FR.said h2 h1 h3 h4 h5 h6 h7 h8 hs
/-- A row that is newer than both. -/
theorem fr_feed_new {w0 w1 w : World} {gx sx gy sy bx b2 : Nat} (h : FR w0 w1 gx sx gy sy bx b2) (hb : Below w1.heap.size w1 w) (hbx : bx ≤ 200000) (g n cap : Nat) (cs : List (BitVec 8)) (hg : w1.heap.size ≤ g) (hgw : g < w.heap.size) (hn : n = cs.length) (hm : n ≤ 65536) (hcap : n ≤ cap) (hcm : cap ≤ maxLen) (hr : Rd w (g + 1) (some ⟨g, 0, none⟩) (cs.map V8)) :
    Calls Tryd.prog 22 #[.pointer (some ⟨gx, 0, none⟩), .slice (some ⟨g, 0, none⟩) n cap] w fun en w' => en = .returned (.bool true) ∧ FR w0 w' gx sx gy sy (bx + n) b2 ∧ Below w0.heap.size w w' := by
  obtain ⟨kx, cx, ky, cy, h1, h2, h3, h4, h5, h6, h7, h8⟩ := h
  have hm1 := h1.mem
  have k1 := h1.keep (keep_of_lt (ks := []) hb) (fun _ _ h => by cases h)
  have k2 := h2.keep (keep_of_lt (ks := []) hb) (fun _ _ h => by cases h)
  refine (feed_calls gx sx kx cx (some ⟨g, 0, none⟩) n cap (g + 1) cs w k1 (by omega) hn hm hcap hcm (by intro h; cases h) hgw (fun w' hk => ?_) hr).mono fun en w' hs => FR.said k2 k1 h3 h4 h5 h6 h7 (h8.trans (hb.mono h8.size)) hs
  intro k v hv
  obtain ⟨b, off, e1, e2, e3⟩ := hr k v hv
  refine ⟨b, off, e1, e2, ?_⟩
  injection e1 with e1; injection e1 with e1 e4; subst e1 e4
  have := hk.block g hgw (fun hm => by have := hm1 g hm; omega)
  rw [← e3]
  simp only [World.cell?]
  rw [this]
theorem fr_end {w0 w : World} {gx sx gy sy bx b2 : Nat} (h : FR w0 w gx sx gy sy bx b2) (hbx : bx ≤ 200000) :
    Calls Tryd.prog 23 #[.pointer (some ⟨gx, 0, none⟩)] w fun en w' => en = .returned (.bool true) ∧ FR w0 w' gx sx gy sy bx b2 ∧ Below w0.heap.size w w' := by
  obtain ⟨kx, cx, ky, cy, h1, h2, h3, h4, h5, h6, h7, h8⟩ := h
  exact (end_calls gx sx kx cx w h1 (by omega)).mono fun en w' hs => FR.said h2 h1 h3 h4 h5 h6 h7 h8 hs
theorem FR.below {w0 w w' : World} {gx sx gy sy bx b2 : Nat} (h : FR w0 w gx sx gy sy bx b2) (hb : Below w.heap.size w w') : FR w0 w' gx sx gy sy bx b2 := by
  obtain ⟨kx, cx, ky, cy, h1, h2, h3, h4, h5, h6, h7, h8⟩ := h
  exact ⟨kx, cx, ky, cy, h1.keep (keep_of_lt (ks := []) hb) (fun _ _ h => by cases h), h2.keep (keep_of_lt (ks := []) hb) (fun _ _ h => by cases h), h3, h4, h5, h6, h7, h8.trans (hb.mono h8.size)⟩
theorem FR.mono {w0 w : World} {gx sx gy sy bx b2 bx' b2' : Nat} (h : FR w0 w gx sx gy sy bx b2) (i1 : bx ≤ bx') (i2 : b2 ≤ b2') : FR w0 w gx sx gy sy bx' b2' := by
  obtain ⟨kx, cx, ky, cy, h1, h2, h3, h4, h5, h6, h7, h8⟩ := h
  exact ⟨kx, cx, ky, cy, h1, h2, h3, h4, h5, by omega, by omega, h8⟩
theorem FR.old {w0 w : World} {gx sx gy sy bx b2 : Nat} (h : FR w0 w gx sx gy sy bx b2) : Below w0.heap.size w0 w := by
  obtain ⟨kx, cx, ky, cy, h1, h2, h3, h4, h5, h6, h7, h8⟩ := h
  exact h8
/-- One of the two texts, what is left of it. -/
def TSl (w0 w : World) (A : Option Addr) (n cap : Nat) (cs : List (BitVec 8)) : Prop := n = cs.length ∧ n ≤ 65536 ∧ n ≤ cap ∧ cap ≤ maxLen ∧ (A = none → n = 0 ∧ cap = 0) ∧ Rd w w0.heap.size A (cs.map V8)
theorem TSl.below {w0 w w' : World} {A : Option Addr} {n cap : Nat} {cs : List (BitVec 8)} (h : TSl w0 w A n cap cs) (hb : Below w0.heap.size w w') : TSl w0 w' A n cap cs :=
  ⟨h.1, h.2.1, h.2.2.1, h.2.2.2.1, h.2.2.2.2.1, h.2.2.2.2.2.below hb (Nat.le_refl _)⟩
theorem fr_feed2 {w0 w : World} {gx sx gy sy bx b2 : Nat} {A : Option Addr} {n cap : Nat} {cs : List (BitVec 8)} (h : FR w0 w gx sx gy sy bx b2) (hbx : bx ≤ 200000) (ht : TSl w0 w A n cap cs) :
    Calls Tryd.prog 22 #[.pointer (some ⟨gx, 0, none⟩), .slice A n cap] w fun en w' => en = .returned (.bool true) ∧ FR w0 w' gx sx gy sy (bx + n) b2 ∧ Below w0.heap.size w w' :=
  fr_feed h hbx A n cap cs ht.1 ht.2.1 ht.2.2.1 ht.2.2.2.1 ht.2.2.2.2.1 ht.2.2.2.2.2
theorem cut_two {w0 w : World} {A : Option Addr} {n cap : Nat} {cs : List (BitVec 8)} {z : Int} (ht : TSl w0 w A n cap cs) (hB : w0.heap.size ≤ w.heap.size) (hz : -9223372036854775808 ≤ z ∧ z ≤ 9223372036854775807) :
    Calls Tryd.prog 21 #[.slice A n cap, .int .i64 z] w fun e w' => ∃ (T : Nat) (A2 : Option Addr) (cap2 : Nat), e = .returned (.tuple #[.slice A T cap, .slice A2 (n - T) cap2]) ∧ T ≤ n ∧ TSl w0 w' A T cap (cs.take T) ∧ TSl w0 w' A2 (n - T) cap2 (cs.drop T) ∧ Below w.heap.size w w' := by
  obtain ⟨h1, h2, h3, h4, h5, h6⟩ := ht
  refine (cutL_calls A n cap w0.heap.size cs z w h1 h2 h3 h4 h5 h6 hz.1 hz.2).mono ?_
  rintro e w' ⟨T, A2, cap2, q, rfl, i1, i2, i3, i4, i5, i6, rfl⟩
  refine ⟨T, A2, cap2, rfl, i1, ⟨by rw [List.length_take]; omega, by omega, by omega, h4, fun h => ⟨i5 h, (h5 h).2⟩, ?_⟩, ⟨by rw [List.length_drop]; omega, by omega, i2, i3, i4, i6⟩, below_drewN (Below.refl _ _) q⟩
  intro k v hv
  have hb : Below w0.heap.size w (w.drewN q) := below_drewN (Below.refl _ _) q
  refine (h6.below hb (Nat.le_refl _)) k v ?_
  rw [List.map_take, List.getElem?_take] at hv
  split at hv
  · exact hv
  · cases hv
/-- A new one. -/
theorem fe_new {w : World} {gf gs : Nat} (hf : FeIs w gf (.pointer (some ⟨gs, 0, none⟩)) (.slice none 0 0) 0 false) (hs : EdIs w gs (.slice none 0 0) 0 0 0 false false) : Fe w gf gs [gf, gs] [] :=
  Or.inl ⟨none, 0, none, 0, hf, hs, World.ownsRow_nil _ _ _ _, World.ownsRow_nil _ _ _ _, by intro g h; simp [Value.ownBlock] at h, by kernel_rfl, by simp [Value.ownBlock]⟩
theorem fr_new {w w1 : World} (hb1 : Below w.heap.size w w1) : FR w ((((w1.alloc (.cells #[.slice none 0 0, .int .i64 0, .int .i64 0, .int .i64 0, .bool false, .bool false] 86)).alloc (.cells #[.pointer (some ⟨w1.heap.size, 0, none⟩), .slice none 0 0, .int .i64 0, .bool false] 42)).alloc (.cells #[.slice none 0 0, .int .i64 0, .int .i64 0, .int .i64 0, .bool false, .bool false] 86)).alloc (.cells #[.pointer (some ⟨w1.heap.size + 2, 0, none⟩), .slice none 0 0, .int .i64 0, .bool false] 42)) (w1.heap.size + 1) w1.heap.size (w1.heap.size + 3) (w1.heap.size + 2) 0 0 := by
  have hz := hb1.size
  have b2 : Below w1.heap.size w1 (w1.alloc (.cells #[.slice none 0 0, .int .i64 0, .int .i64 0, .int .i64 0, .bool false, .bool false] 86)) := (Below.refl _ _).alloc (Nat.le_refl _) _
  have s2 : EdIs (w1.alloc (.cells #[.slice none 0 0, .int .i64 0, .int .i64 0, .int .i64 0, .bool false, .bool false] 86)) w1.heap.size (.slice none 0 0) 0 0 0 false false := heap_alloc_new _ _
  have z2 : (w1.alloc (.cells #[.slice none 0 0, .int .i64 0, .int .i64 0, .int .i64 0, .bool false, .bool false] 86)).heap.size = w1.heap.size + 1 := by simp
  generalize w1.alloc (.cells #[.slice none 0 0, .int .i64 0, .int .i64 0, .int .i64 0, .bool false, .bool false] 86) = w2 at *
  have b3 : Below w2.heap.size w2 (w2.alloc (.cells #[.pointer (some ⟨w1.heap.size, 0, none⟩), .slice none 0 0, .int .i64 0, .bool false] 42)) := (Below.refl _ _).alloc (Nat.le_refl _) _
  have s3 : FeIs (w2.alloc (.cells #[.pointer (some ⟨w1.heap.size, 0, none⟩), .slice none 0 0, .int .i64 0, .bool false] 42)) w2.heap.size (.pointer (some ⟨w1.heap.size, 0, none⟩)) (.slice none 0 0) 0 false := heap_alloc_new _ _
  have z3 : (w2.alloc (.cells #[.pointer (some ⟨w1.heap.size, 0, none⟩), .slice none 0 0, .int .i64 0, .bool false] 42)).heap.size = w2.heap.size + 1 := by simp
  have s23 := s2.below b3 s2.lt
  generalize w2.alloc (.cells #[.pointer (some ⟨w1.heap.size, 0, none⟩), .slice none 0 0, .int .i64 0, .bool false] 42) = w3 at *
  have b4 : Below w3.heap.size w3 (w3.alloc (.cells #[.slice none 0 0, .int .i64 0, .int .i64 0, .int .i64 0, .bool false, .bool false] 86)) := (Below.refl _ _).alloc (Nat.le_refl _) _
  have s4 : EdIs (w3.alloc (.cells #[.slice none 0 0, .int .i64 0, .int .i64 0, .int .i64 0, .bool false, .bool false] 86)) w3.heap.size (.slice none 0 0) 0 0 0 false false := heap_alloc_new _ _
  have z4 : (w3.alloc (.cells #[.slice none 0 0, .int .i64 0, .int .i64 0, .int .i64 0, .bool false, .bool false] 86)).heap.size = w3.heap.size + 1 := by simp
  have s24 := s23.below b4 s23.lt
  have s34 := s3.below b4 s3.lt
  generalize w3.alloc (.cells #[.slice none 0 0, .int .i64 0, .int .i64 0, .int .i64 0, .bool false, .bool false] 86) = w4 at *
  have b5 : Below w4.heap.size w4 (w4.alloc (.cells #[.pointer (some ⟨w1.heap.size + 2, 0, none⟩), .slice none 0 0, .int .i64 0, .bool false] 42)) := (Below.refl _ _).alloc (Nat.le_refl _) _
  have s5 : FeIs (w4.alloc (.cells #[.pointer (some ⟨w1.heap.size + 2, 0, none⟩), .slice none 0 0, .int .i64 0, .bool false] 42)) w4.heap.size (.pointer (some ⟨w1.heap.size + 2, 0, none⟩)) (.slice none 0 0) 0 false := heap_alloc_new _ _
  have s25 := s24.below b5 s24.lt
  have s35 := s34.below b5 s34.lt
  have s45 := s4.below b5 s4.lt
  generalize w4.alloc (.cells #[.pointer (some ⟨w1.heap.size + 2, 0, none⟩), .slice none 0 0, .int .i64 0, .bool false] 42) = w5 at *
  rw [z4, z3, z2] at s5
  rw [z3, z2] at s45
  rw [z2] at s35
  refine ⟨_, _, _, _, fe_new s35 s25, fe_new s5 s45, ?_, ?_, ?_, Nat.le_refl _, Nat.le_refl _, hb1.trans (((b2.trans (b3.mono (by omega))).trans (b4.mono (by omega))).trans (b5.mono (by omega)) |>.mono hz)⟩
  · intro k hk hm; simp at hk hm; omega
  · intro k hk; simp at hk; omega
  · intro k hk; simp at hk; omega
end Go.Proofs.YtgoobadkbndfgaaDoor
