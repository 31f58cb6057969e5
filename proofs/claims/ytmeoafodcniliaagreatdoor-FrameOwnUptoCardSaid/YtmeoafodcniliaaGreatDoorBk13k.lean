/- Book.Frames: a row of frames is kept, and all payloads in it (printed by gen13k.py) -/
import Derived.Test.YtmeoafodcniliaaGreatDoorBk13c
import Derived.Test.YtmeoafodcniliaaGreatDoorBkN
import Derived.Test.YtmeoafodcniliaaGreatDoorBkR
namespace Go.Proofs.YtmeoafodcniliaaGreatDoor
open Go.RowKit
set_option linter.unusedSimpArgs false
set_option linter.unusedVariables false
namespace Bk
/-- The keeping of one list of a kind, told by what it makes. -/
theorem Is.keep {used : Nat → Bool} {w : World} {kb N K : Nat} {U : Nat → Prop} (h : Is used w kb U N) (hK : K < 17) (hus : used K = true) (hce : cont (eT K) = true) :
    ∃ vs ws hv hw, BkC w kb 0 0 ∧ KW w kb K vs ws hv hw ∧ vs.length ≤ N ∧ ws.length = vs.length ∧
      ∀ (l : Value) (e : Ending) (base n : Nat) (xs : List Value) (D : Nat → Prop) (w' : World), w.ownsRow base (eT K) (sz K) l n xs → (∀ g, l.ownBlock = some g → ¬ U g) → (∀ g, D g → U g) → KeepRaw D w kb K vs ws hv hw l e w' →
        e = .returned (.tuple #[]) ∧ Is used w' kb (more U w w' l) (N + 1) ∧ Kept U w w' ∧ Kept (NC w) w w' := by
  obtain ⟨vs, ws, hv, hw, h⟩ := h
  refine ⟨vs K, ws K, hv K, hw K, h.bk, h.k K hK, h.few K hK, h.len K hK, fun l e base n xs D w' hl hfree hD hr => ?_⟩
  obtain ⟨a, b, c⟩ := h.push hK hus hce hl hfree hD hr
  exact ⟨a, b, c, raw_nc h hK hr⟩
/-- What is kept behind some of a frame's payloads, or behind all and the row. -/
structure FrKept (used : Nat → Bool) (w w' : World) (kb : Nat) (U : Nat → Prop) (N : Nat) (l : Value) (fs : List Fr) : Prop where
  is : ∃ U', Is used w' kb U' N ∧ (∀ g, U g → U' g) ∧ (∀ g, (∃ f ∈ fs, f.pv.ownBlock = some g) → U' g) ∧ ∀ g, U' g → U g ∨ l.ownBlock = some g ∨ (∃ f ∈ fs, f.pv.ownBlock = some g) ∨ w.heap.size ≤ g
  nc : Kept (NC w) w w'
  kept : Kept (fun g => U g ∨ l.ownBlock = some g ∨ ∃ f ∈ fs, f.pv.ownBlock = some g) w w'
def KeepFr (used : Nat → Bool) (w : World) (kb : Nat) (U : Nat → Prop) (N : Nat) (l : Value) (fs : List Fr) (e : Ending) (w' : World) : Prop := e = .returned (.tuple #[]) ∧ FrKept used w w' kb U N l fs
theorem mem_take_next {α : Type} {fs : List α} {a : Nat} {f x : α} (hf : fs[a]? = some f) : x ∈ fs.take (a + 1) ↔ x ∈ fs.take a ∨ x = f := by
  rw [List.take_add_one, hf]; simp
theorem FrKept.next {used : Nat → Bool} {w wr w2 : World} {kb N a : Nat} {U V : Nat → Prop} {l : Value} {fs : List Fr} {f : Fr} (hf : fs[a]? = some f)
    (h2 : ∀ g, U g → V g) (h3 : ∀ g, (∃ f ∈ fs.take a, f.pv.ownBlock = some g) → V g) (h4 : ∀ g, V g → U g ∨ l.ownBlock = some g ∨ (∃ f ∈ fs.take a, f.pv.ownBlock = some g) ∨ w.heap.size ≤ g)
    (h5 : Kept (NC w) w wr) (h6 : Kept (fun g => U g ∨ l.ownBlock = some g ∨ ∃ f ∈ fs.take a, f.pv.ownBlock = some g) w wr)
    (k1 : Is used w2 kb (more V wr w2 f.pv) (N + a + 1)) (k2 : Kept V wr w2) (k3 : Kept (NC wr) wr w2) : FrKept used w w2 kb U (N + (a + 1)) l (fs.take (a + 1)) := by
  have hs := h5.size
  refine ⟨⟨_, k1, fun g hg => .inl (h2 g hg), ?_, ?_⟩, h5.nc k3, (h6.mono (G := fun g => U g ∨ l.ownBlock = some g ∨ ∃ f ∈ fs.take (a + 1), f.pv.ownBlock = some g) ?_).trans k2 ?_⟩
  · rintro g ⟨x, hx, hg⟩
    rcases (mem_take_next hf).1 hx with h | rfl
    · exact .inl (h3 g ⟨x, h, hg⟩)
    · exact .inr (.inl hg)
  · rintro g (h | h | h)
    · rcases h4 g h with e | e | ⟨x, hx, e⟩ | e
      · exact .inl e
      · exact .inr (.inl e)
      · exact .inr (.inr (.inl ⟨x, (mem_take_next hf).2 (.inl hx), e⟩))
      · exact .inr (.inr (.inr e))
    · exact .inr (.inr (.inl ⟨f, (mem_take_next hf).2 (.inr rfl), h⟩))
    · exact .inr (.inr (.inr (Nat.le_trans hs h.1)))
  · rintro g _ (e | e | ⟨x, hx, e⟩)
    · exact .inl e
    · exact .inr (.inl e)
    · exact .inr (.inr ⟨x, (mem_take_next hf).2 (.inl hx), e⟩)
  · intro g hg
    rcases h4 g hg with e | e | ⟨x, hx, e⟩ | e
    · exact .inl (.inl e)
    · exact .inl (.inr (.inl e))
    · exact .inl (.inr (.inr ⟨x, (mem_take_next hf).2 (.inl hx), e⟩))
    · exact .inr e
theorem FrKept.last {used : Nat → Bool} {w wr w2 : World} {kb N : Nat} {U V : Nat → Prop} {l0 l : Value} {fs : List Fr} (hl0 : l0.ownBlock = none)
    (h2 : ∀ g, U g → V g) (h3 : ∀ g, (∃ f ∈ fs, f.pv.ownBlock = some g) → V g) (h4 : ∀ g, V g → U g ∨ l0.ownBlock = some g ∨ (∃ f ∈ fs, f.pv.ownBlock = some g) ∨ w.heap.size ≤ g)
    (h5 : Kept (NC w) w wr) (h6 : Kept (fun g => U g ∨ l0.ownBlock = some g ∨ ∃ f ∈ fs, f.pv.ownBlock = some g) w wr)
    (k1 : Is used w2 kb (more V wr w2 l) N) (k2 : Kept V wr w2) (k3 : Kept (NC wr) wr w2) : FrKept used w w2 kb U N l fs := by
  have hs := h5.size
  have hno : ∀ g, l0.ownBlock ≠ some g := fun g h => by rw [hl0] at h; cases h
  refine ⟨⟨_, k1, fun g hg => .inl (h2 g hg), fun g hg => .inl (h3 g hg), ?_⟩, h5.nc k3, (h6.mono (G := fun g => U g ∨ l.ownBlock = some g ∨ ∃ f ∈ fs, f.pv.ownBlock = some g) ?_).trans k2 ?_⟩
  · rintro g (h | h | h)
    · rcases h4 g h with e | e | e | e
      · exact .inl e
      · exact absurd e (hno g)
      · exact .inr (.inr (.inl e))
      · exact .inr (.inr (.inr e))
    · exact .inr (.inl h)
    · exact .inr (.inr (.inr (Nat.le_trans hs h.1)))
  · rintro g _ (e | e | e)
    · exact .inl e
    · exact absurd e (hno g)
    · exact .inr (.inr e)
  · intro g hg
    rcases h4 g hg with e | e | e | e
    · exact .inl (.inl e)
    · exact absurd e (hno g)
    · exact .inl (.inr (.inr e))
    · exact .inr e
theorem keep_kept {w w7 w8 W9 w9 : World} {kb f : Nat} {hv hw v : Value} (p3 : Kept (fun x => x = kb ∨ hv.ownBlock = some x) w w7) (hb8 : Below w7.heap.size w7 w8) (hal9 : Below w8.heap.size w8 W9) (hk9 : Kept (fun k => hw.ownBlock = some k) W9 w9) :
    Kept (fun x => x = kb ∨ hv.ownBlock = some x ∨ hw.ownBlock = some x) w (w9.setCell ⟨kb, f, none⟩ v) ∧ Kept (fun x => x = kb ∨ hw.ownBlock = some x) w8 (w9.setCell ⟨kb, f, none⟩ v) := by
  have k810 : Kept (fun x => x = kb ∨ hw.ownBlock = some x) w8 (w9.setCell ⟨kb, f, none⟩ v) :=
    ((Kept.of_below (F := fun x => x = kb ∨ hw.ownBlock = some x) hal9).trans (hk9.mono (G := fun x => x = kb ∨ hw.ownBlock = some x) (fun x _ h => .inr h)) (fun x h => .inl h)).trans (Kept.set w9 kb _ v) (fun x h => .inl (.inl h))
  refine ⟨?_, k810⟩
  refine ((p3.mono (G := fun x => x = kb ∨ hv.ownBlock = some x ∨ hw.ownBlock = some x) (fun x _ h => h.imp (fun h => h) .inl)).trans (Kept.of_below (F := fun _ => False) hb8) (fun x h => h.elim)).trans k810 (fun x h => .inl ?_)
  exact h.imp (fun h => h) .inr
theorem FrCopy.eq : ∀ {fs gs : List Fr}, FrCopy fs gs → gs.length = fs.length → (fs.flatMap fun f => [Value.int .i64 f.kind, f.pv]) = gs.flatMap fun f => [Value.int .i64 f.kind, f.pv]
  | [], [], _, _ => rfl
  | [], _ :: _, _, h => by simp at h
  | _ :: _, [], _, h => by simp at h
  | f :: fs, g :: gs, h, hl => by
    obtain ⟨f', e, e1, e2, _⟩ := h.same 0 g rfl
    simp at e
    subst e
    have h' : FrCopy fs gs := ⟨by simp at hl; omega, fun i x hx => h.same (i + 1) x (by simpa using hx)⟩
    have := FrCopy.eq h' (by simpa using hl)
    simp only [List.flatMap_cons]
    rw [this, e1, e2]
theorem can13 {w w7 w8 W9 w9 : World} {kb f n : Nat} {vs ws : List Value} {hv hw v : Value} {fs gs : List Fr} {U : Nat → Prop} (hb : BkC w kb 0 0) (hk : KW w kb 13 vs ws hv hw)
    (p3 : Kept (fun x => x = kb ∨ hv.ownBlock = some x) w w7) (hb8 : Below w7.heap.size w7 w8) (hal9 : Below w8.heap.size w8 W9) (hk9 : Kept (fun k => hw.ownBlock = some k) W9 w9)
    (hfl : fs.length = n) (hfs : ∀ f ∈ fs, f.bs.length ≤ 1099511627776 ∧ w.ownsRow 0 5 1 f.pv f.bs.length (f.bs.map V8)) (hcp : FrCopy fs gs) (hgl : gs.length = n) (hqs : ∀ g ∈ gs, w8.ownsRow w7.heap.size 5 1 g.qv g.bs.length (g.bs.map V8))
    (hD : ∀ g, (∃ f ∈ fs, f.pv.ownBlock = some g) → U g) (hN : ∀ g, w.heap.size ≤ g → g < (w9.setCell ⟨kb, f, none⟩ v).heap.size → U g) :
    Can 13 U (w9.setCell ⟨kb, f, none⟩ v) n (fs.flatMap fun f => [Value.int .i64 f.kind, f.pv]) (gs.flatMap fun f => [Value.int .i64 f.kind, f.qv]) := by
  obtain ⟨k1, k2⟩ := keep_kept (f := f) (v := v) p3 hb8 hal9 hk9
  refine ⟨gs, hgl, hcp.eq (hgl.trans hfl.symm), rfl, fun g hg => ?_⟩
  obtain ⟨i, hi⟩ := List.getElem?_of_mem hg
  obtain ⟨x, hx, e1, e2, e3⟩ := hcp.same i g hi
  have hxm := List.mem_of_getElem? hx
  obtain ⟨l1, l2⟩ := hfs x hxm
  rw [← e2, ← e3] at l2
  rw [← e3] at l1
  have hq := hqs g hg
  have hq' := own_kept hq k2 (fun y hy he => by
    have h1 := (own_blk hq hy).1
    rcases he with he | he
    · have := hb.lt; have := p3.size; omega
    · have := (own_blk hk.hws.2 he).2; have := p3.size; omega)
  refine ⟨l1, own_kept l2 k1 (fun y hy he => ?_), own_zero hq', fun y hy => hD y ⟨x, hxm, by rw [← e2]; exact hy⟩, fun y hy => hN y (Nat.le_trans p3.size (own_blk hq hy).1) (own_blk hq' hy).2⟩
  rcases he with he | he | he
  · subst he; exact hb.not l2 (by decide) hy
  · exact own_apart l2 hk.hvs.2 (by decide) hy he
  · exact own_apart l2 hk.hws.2 (by decide) hy he
set_option maxRecDepth 20000 in
set_option maxHeartbeats 8000000 in
theorem keepIs13 {used : Nat → Bool} {kb N : Nat} {U : Nat → Prop} (hu0 : used 0 = true) (hu : used 13 = true) (A : Option Addr) (n cap : Nat) (fs : List Fr) (w : World) (h : Is used w kb U N) (hN : N + n ≤ 1000000) (hxl : fs.length = n)
    (hl : w.ownsRow 0 74 2 (.slice A n cap) n (fs.flatMap fun f => [Value.int .i64 f.kind, f.pv])) (hfree : ∀ g, (Value.slice A n cap).ownBlock = some g → ¬ U g)
    (hfs : ∀ f ∈ fs, f.bs.length ≤ 1099511627776 ∧ w.ownsRow 0 5 1 f.pv f.bs.length (f.bs.map V8)) (hff : ∀ f ∈ fs, ∀ g, f.pv.ownBlock = some g → ¬ U g)
    (hap : ∀ (i j : Nat) (a b : Fr), i < j → fs[i]? = some a → fs[j]? = some b → ∀ g, a.pv.ownBlock = some g → b.pv.ownBlock ≠ some g) :
    Calls Tryz.prog 33 #[.pointer (some ⟨kb, 0, none⟩), .slice A n cap] w (KeepFr used w kb U (N + n + 1) (.slice A n cap) fs) := by
  have Hu0 := Lib.hid hu0; have Hu := Lib.hid hu; have Hxl := Lib.hid hxl; have Hrow := Lib.hid hl; have Hfree := Lib.hid hfree; have Hpay := Lib.hid hfs; have Hff := Lib.hid hff; have Hap := Lib.hid hap; have Hcap := Lib.hid (own_caps hl)
  have Hst := Lib.hid (show FrKept used w w kb U (N + 0) (.slice none 0 0) (fs.take 0) from ⟨⟨U, h, fun _ h => h, (by rintro g ⟨x, hx, _⟩; simp at hx), fun _ h => .inl h⟩, Kept.refl _ _, Kept.refl _ _⟩)
  clear hu0 hu hxl hl hfree hfs hff hap h
  go_enter Tryz.func33, Tryz.ntmps33
  go_wp2_with fail
  go_loopw [4] (fun iv wr => ∃ a : Nat, iv = .int .i64 (a : Int) ∧ a ≤ n ∧ FrKept used w wr kb U (N + a) (.slice none 0 0) (fs.take a)) (fun iv _ => n - (intOf iv).toNat)
  case atStart => exact ⟨0, rfl, by omega, Hst.out⟩
  case round =>
  obtain ⟨a, rfl, ha, ⟨V, k1, k2, k3, k4⟩, k5, k6⟩ := hrel
  have K1 := Lib.hid k1; have K2 := Lib.hid k2; have K3 := Lib.hid k3; have K4 := Lib.hid k4; have K5 := Lib.hid k5; have K6 := Lib.hid k6
  clear k1 k2 k3 k4 k5 k6
  by_cases hlt : a < n
  · have q1 : (a : Int) < (n : Int) := by omega
    obtain ⟨f, hf⟩ : ∃ f, fs[a]? = some f := ⟨fs[a]'(by rw [Hxl.out]; omega), List.getElem?_eq_getElem _⟩
    have hfm := List.mem_of_getElem? hf
    obtain ⟨l1, l2⟩ := Hpay.out f hfm
    obtain ⟨A5, c5, hpv, hc5, hm5⟩ := own_hdr l2
    obtain ⟨b, off, rfl, hbB, hc1⟩ := own_rd (own_nc Hrow.out (by decide) K5.out) _ _ (frs_get (fun f => f.pv) fs a f hf).2
    rw [hpv, ← Nat.add_assoc] at hc1
    obtain ⟨m, hm⟩ : ∃ m, f.bs.length = m := ⟨_, rfl⟩
    have L2 := Lib.hid (own_nc l2 (by decide) K5.out)
    have L1 := Lib.hid l1
    have hno : ∀ g, f.pv.ownBlock = some g → ¬ V g := fun g hg hV => by
      rcases K4.out g hV with e | e | ⟨x, hx, e⟩ | e
      · exact Hff.out f hfm g hg e
      · cases e
      · obtain ⟨j, hj⟩ := List.getElem?_of_mem hx
        have hja : j < a := by
          have := (List.getElem?_eq_some_iff.1 hj).1
          rw [List.length_take] at this; omega
        rw [List.getElem?_take_of_lt hja] at hj
        exact Hap.out j a x f hja hj hf g e hg
      · have := (own_blk l2 hg).2; omega
    have Hno := Lib.hid hno; have HF := Lib.hid hf; have HPV := Lib.hid hpv; have Hm := Lib.hid hm
    rw [hm] at hc1 hc5
    clear hf hfm l1 l2 hno hpv hm hm5
    go_wp2_with fail
    refine (keepNc0 Hu0.out 0 A5 m c5 f.bs _ K1.out (by omega) Hm.out (by have := L1.out; have := Hm.out; omega) (by have := L2.out; rw [HPV.out, Hm.out] at this; exact this) (by have := Hno.out; rw [HPV.out, Hm.out] at this; exact this)).mono ?_
    rintro e w2 ⟨rfl, r1, r2, r3⟩
    have HR := Lib.hid (FrKept.next HF.out K2.out K3.out K4.out K5.out K6.out (by rw [HPV.out, Hm.out]; exact r1) r2 r3)
    clear r1 r2 r3 hc1
    go_wp2_with fail
    exact ⟨⟨a + 1, by congr 1, by omega, HR.out⟩, by simp [intOf]; omega⟩
  · obtain rfl : n = a := by omega
    have htk : fs.take n = fs := List.take_of_length_le (by rw [Hxl.out]; exact Nat.le_refl _)
    have k3 := K3.out; have k4 := K4.out; have k6 := K6.out
    rw [htk] at k3 k4 k6
    obtain ⟨vs, ws, hv, hw, hb, hk, hN', hwl, hend⟩ := K1.out.keep (K := 13) (by decide) Hu.out (by decide)
    have hl := own_nc Hrow.out (by decide) K5.out
    have Hfs := Lib.hid (show ∀ f ∈ fs, f.bs.length ≤ 1099511627776 ∧ wr.ownsRow 0 5 1 f.pv f.bs.length (f.bs.map V8) from fun f hf => ⟨(Hpay.out f hf).1, own_nc (Hpay.out f hf).2 (by decide) K5.out⟩)
    have hnV : ∀ g, (Value.slice A n cap).ownBlock = some g → ¬ V g := fun g hg hV => by
      rcases k4 g hV with e | e | ⟨x, hx, e⟩ | e
      · exact Hfree.out g hg e
      · cases e
      · exact own_apart Hrow.out (Hpay.out x hx).2 (by decide) hg e
      · have := (own_blk Hrow.out hg).2; omega
    have hE : ∀ e w2, KeepRaw (fun g => ∃ f ∈ fs, f.pv.ownBlock = some g) wr kb 13 vs ws hv hw (.slice A n cap) e w2 → e = .returned (.tuple #[]) ∧ FrKept used w w2 kb U (N + n + 1) (.slice A n cap) fs := fun e w2 hr => by
      obtain ⟨r0, r1, r2, r3⟩ := hend _ _ _ _ _ _ _ hl hnV k3 hr
      exact ⟨r0, FrKept.last rfl K2.out k3 k4 K5.out k6 r1 r2 r3⟩
    have hN : vs.length ≤ 1000000 := by omega
    have hxl := Hxl.out
    have hnm : n ≤ 1099511627776 := by omega
    clear k3 k4 k6 hnV hend htk hN' ha
    obtain ⟨iS, hiS, hzS0, hzS1, hzS2⟩ := info_parts infoS13
    obtain ⟨A2, C2, rfl, hc2, hm2⟩ := own_hdr hk.hvs.2
    obtain ⟨A3, C3, rfl, hc3, hm3⟩ := own_hdr hk.hws.2
    obtain ⟨M, hNv⟩ : ∃ M, vs.length = M := ⟨_, rfl⟩
    have hwN : ws.length = M := hwl.trans hNv
    rw [hNv, hwN] at hk
    rw [hNv, hwN] at hE
    have Hend := Lib.hid hE
    clear hE
    rw [hNv] at hN
    have hov1 : wr.ownsRow 0 (sT 13) 1 (.slice A2 M C2) M vs := by have := hk.hvs.2; rw [hNv] at this; exact this
    have hov2 : wr.ownsRow 0 (sT 13) 1 (.slice A3 M C3) M ws := by have := hk.hws.2; rw [hwN] at this; exact this
    have hcv := hk.hvs.1
    have hcw := hk.hws.1
    have hA3 : ∀ O, (wr.alloc O).cell? ⟨kb, 41, none⟩ = _ := fun O => (cell_alloc_lt (w := wr) O (cell_lt hcv)).trans hcv
    have Hal := Lib.hid (show Below wr.heap.size wr (wr.alloc (.cells #[.slice A n cap] 71)) from (Below.refl wr.heap.size wr).alloc (Nat.le_refl _) _)
    have Hog := Lib.hid (show (wr.alloc (.cells #[.slice A n cap] 71)).ownsRow 0 71 1 (.slice A2 M C2) M vs from own_below_any hov1 Hal.out)
    have Hrd0 := Lib.hid (rd_alloc wr #[.slice A n cap] 71 [.slice A n cap] rfl)
    have Hne := Lib.hid (show ¬ (Value.slice A2 M C2).ownBlock = some kb from hb.not hov1 (sT_book 13))
    have Hb := Lib.hid hb; have Hk := Lib.hid hk; have HN := Lib.hid hNv; have HW := Lib.hid hwN; have Hl := Lib.hid hl; have Hx := Lib.hid hxl; have HiS := Lib.hid hiS; have Hov1 := Lib.hid hov1; have Hov2 := Lib.hid hov2; have Hnm := Lib.hid hnm
    clear hb hk hNv hwl hwN hc2 hm2 hc3 hm3 hl hxl hiS hov1 hov2 hnm
    go_wp2_with (at_builtin; refine wpList_append_two rfl _ _ 39 rfl 71 iS _ 1 24 descS13 HiS.out hzS0 hzS1 hzS2 rfl (by decide) (.slice A2 M C2) M vs rfl Hog.out (some ⟨wr.heap.size, 0, none⟩) 1 1 _ [.slice A n cap] rfl (by decide) (by rfl) Hrd0.out (by intro u hu; simp at hu; subst hu; rfl) (by unfold maxLen; omega) (by omega) ?_; intro v6 w6 hown6 hold6 hkept6 hblk6; obtain ⟨A6, c6, rfl, _, _⟩ := own_hdr hown6; have hx6 := (hkept6.cell (o := 41) (Nat.lt_of_lt_of_le Hb.out.lt Hal.out.size) Hne.out).trans (hA3 _); have hf6 : w6.frozen? ⟨kb, 41, none⟩ = false := (World.frozen?_of_block (w := wr) (a := ⟨kb, 41, none⟩) ((hkept6.block kb (Nat.lt_of_lt_of_le Hb.out.lt Hal.out.size) Hne.out).trans (Hal.out.block kb Hb.out.lt))).trans (Hb.out.fz _); have Hp := Lib.hid (Hd.push Hb.out Hk.out.hvs (sT_book 13) (by decide) (by decide) Hal.out hkept6 (by rw [HN.out]; exact hown6) hblk6); clear hown6 hold6 hkept6 hblk6)
    have hcw7 := (Hp.out.2.2.2.1 42 (by decide)).trans hcw
    have Hb7 := Lib.hid Hp.out.2.1
    have Hl7 := Lib.hid (own_kept Hl.out Hp.out.2.2.1 (fun g hg he => by
      rcases he with he | he
      · subst he; exact Hb.out.not Hl.out (eT_book 13) hg
      · exact own_apart Hl.out Hk.out.hvs.2 (Ne.symm (sT_eT 13)) hg he))
    have Hfs7 := Lib.hid (show ∀ f ∈ fs, f.bs.length ≤ 1099511627776 ∧ (w6.setCell ⟨kb, 41, none⟩ (.slice A6 (M + 1) c6)).ownsRow 0 5 1 f.pv f.bs.length (f.bs.map V8) from fun f hf => ⟨(Hfs.out f hf).1, own_kept (Hfs.out f hf).2 Hp.out.2.2.1 (fun g hg he => by
      rcases he with he | he
      · subst he; exact Hb.out.not (Hfs.out f hf).2 (by decide) hg
      · exact own_apart (Hfs.out f hf).2 Hk.out.hvs.2 (by decide) hg he)⟩)
    have Hw7 := Lib.hid (own_kept Hov2.out Hp.out.2.2.1 (fun g hg he => by
      rcases he with he | he
      · subst he; exact Hb.out.not Hov2.out (sT_book 13) hg
      · exact Hk.out.sep g he hg))
    clear hcv hcw hA3 hx6 hf6
    generalize w6.setCell ⟨kb, 41, none⟩ (.slice A6 (M + 1) c6) = w7 at *
    have Hne7 := Lib.hid (show ¬ (Value.slice A3 M C3).ownBlock = some kb from Hb7.out.not Hw7.out (sT_book 13))
    refine Bk.region_front2 (n := 11) (S := fun w' => w'.cell? ⟨kb, 42, none⟩ = some (.slice A3 M C3) ∧ True) rfl rfl (by kernel_rfl) (by kernel_rfl) (by kernel_rfl) rfl (by kernel_rfl) ⟨hcw7, trivial⟩ (fun hS0 => ?_)
    simp only [List.take_succ_cons, List.take_zero]
    refine Bk.takeD (i := 0) (some 28) (v := .pointer (some ⟨kb, 0, none⟩)) rfl rfl (by kernel_rfl) (by kernel_rfl) (by kernel_rfl) (fun _ _ _ h => h) (Or.inl ⟨by rfl, fun w' hS => by (try dsimp only at hS); go_simp⟩) hS0 ?_
    simp only [Act.put, List.setIfInBounds_toArray, List.set_cons_zero, List.set_cons_succ]
    refine Bk.takeD (i := 1) (some 29) (v := .pointer (some ⟨kb, 0, none⟩)) rfl rfl (by kernel_rfl) (by kernel_rfl) (by kernel_rfl) (fun _ _ _ h => h) (Or.inl ⟨by rfl, fun w' hS => by (try dsimp only at hS); go_simp⟩) hS0 ?_
    simp only [Act.put, List.setIfInBounds_toArray, List.set_cons_zero, List.set_cons_succ]
    refine Bk.takeD (i := 2) (some 30) (v := .pointer (some ⟨kb, 0, none⟩)) rfl rfl (by kernel_rfl) (by kernel_rfl) (by kernel_rfl) (fun _ _ _ h => h) (Or.inl ⟨by rfl, fun w' hS => by (try dsimp only at hS); go_simp⟩) hS0 ?_
    simp only [Act.put, List.setIfInBounds_toArray, List.set_cons_zero, List.set_cons_succ]
    refine Bk.takeD (i := 3) (some 31) (v := .pointer (some ⟨kb, 42, none⟩)) rfl rfl (by kernel_rfl) (by kernel_rfl) (by kernel_rfl) (fun _ _ _ h => h) (Or.inl ⟨by rfl, fun w' hS => by (try dsimp only at hS); go_simp⟩) hS0 ?_
    simp only [Act.put, List.setIfInBounds_toArray, List.set_cons_zero, List.set_cons_succ]
    refine Bk.takeD (i := 4) (some 32) (v := .slice A3 M C3) rfl rfl (by kernel_rfl) (by kernel_rfl) (by kernel_rfl) (fun _ _ _ h => h) (Or.inl ⟨by rfl, fun w' hS => by (try dsimp only at hS); go_simp⟩) hS0 ?_
    simp only [Act.put, List.setIfInBounds_toArray, List.set_cons_zero, List.set_cons_succ]
    refine Bk.takeD (i := 5) (some 33) (v := .slice A n cap) rfl rfl (by kernel_rfl) (by kernel_rfl) (by kernel_rfl) (fun _ _ _ h => h) (Or.inl ⟨by rfl, fun w' hS => by (try dsimp only at hS); go_simp⟩) hS0 ?_
    simp only [Act.put, List.setIfInBounds_toArray, List.set_cons_zero, List.set_cons_succ]
    refine Bk.calD (i := 6) (some 34) (by kernel_rfl) rfl rfl rfl (f := 81) (args := #[.slice A n cap]) (by go_simp) (copyk13 A n cap w7.heap.size fs _ Hx.out Hnm.out Hcap.out.1 Hcap.out.2 (fun f hf => (Hfs7.out f hf).1) ((frRd_of (fun f => f.pv) Hl7.out (fun f hf => (Hfs7.out f hf).2)).below (Below.refl _ _).drew (Nat.le_refl _)) (Nat.le_refl _)) ?_
    rintro e w8 ⟨A8, c8, gs, rfl, hgl8, hcp8, hown8, hqs8, hb8'⟩; have hb8 : Below w7.heap.size w7 w8 := ⟨hb8'.os, hb8'.tape, hb8'.output, hb8'.size, hb8'.block⟩; have hcw8 := (hb8.cell (p := ⟨kb, 42, none⟩) (cell_lt hcw7)).trans hcw7; have hA8 : ∀ O, (w8.alloc O).cell? ⟨kb, 42, none⟩ = _ := fun O => (cell_alloc_lt (w := w8) O (cell_lt hcw8)).trans hcw8; have Hal8 := Lib.hid (show Below w8.heap.size w8 (w8.alloc (.cells #[.slice A8 n c8] 71)) from (Below.refl w8.heap.size w8).alloc (Nat.le_refl _) _); have Hog8 := Lib.hid (show (w8.alloc (.cells #[.slice A8 n c8] 71)).ownsRow 0 71 1 (.slice A3 M C3) M ws from own_below_any (own_below_any Hw7.out hb8) Hal8.out); have Hrd8 := Lib.hid (rd_alloc w8 #[.slice A8 n c8] 71 [.slice A8 n c8] rfl); clear hb8'
    refine ⟨_, rfl, ⟨hcw8, trivial⟩, fun hS1 => ?_⟩
    simp only [Act.put, List.setIfInBounds_toArray, List.set_cons_zero, List.set_cons_succ]
    refine Bk.valD (i := 7) (some 35) (by kernel_rfl) rfl rfl rfl (v := .slice (some ⟨w8.heap.size, 0, none⟩) 1 1) (w' := w8.alloc (.cells #[.slice A8 n c8] 71)) (by go_simp) (⟨hA8 _, trivial⟩) (fun hS2 => ?_)
    simp only [Act.put, List.setIfInBounds_toArray, List.set_cons_zero, List.set_cons_succ]
    refine Bk.appD (i := 8) (some 36) (by kernel_rfl) rfl rfl rfl _ _ 39 rfl 71 iS _ 1 24 descS13 HiS.out hzS0 hzS1 hzS2 rfl (by decide) (.slice A3 M C3) M ws rfl Hog8.out ⟨w8.heap.size, 0, none⟩ 1 1 _ [.slice A8 n c8] rfl (by decide) (by rfl) Hrd8.out (by intro u hu; simp at hu; subst hu; rfl) (by unfold maxLen; omega) (by omega) ?_
    intro v9 w9 hown9 hold9 hkept9 hblk9; obtain ⟨A9, c9, rfl, _, _⟩ := own_hdr hown9.out; have hx9 := (hkept9.out.cell (o := 42) (Nat.lt_of_lt_of_le (cell_lt hcw8) Hal8.out.size) Hne7.out).trans (hA8 _); have hf9 : w9.frozen? ⟨kb, 42, none⟩ = false := (World.frozen?_of_block (w := w7) (a := ⟨kb, 42, none⟩) ((hkept9.out.block kb (Nat.lt_of_lt_of_le (cell_lt hcw8) Hal8.out.size) Hne7.out).trans ((Hal8.out.block kb (cell_lt hcw8)).trans (hb8.block kb Hb7.out.lt)))).trans (Hb7.out.fz _)
    refine ⟨⟨hx9, trivial⟩, fun hS3 => ?_⟩
    simp only [Act.put, List.setIfInBounds_toArray, List.set_cons_zero, List.set_cons_succ]
    refine Bk.takeD (i := 9) (some 37) (v := .pointer (some ⟨kb, 0, none⟩)) rfl rfl (by kernel_rfl) (by kernel_rfl) (by kernel_rfl) (fun _ _ _ h => h) (Or.inl ⟨by rfl, fun w' hS => by (try dsimp only at hS); go_simp⟩) hS3 ?_
    simp only [Act.put, List.setIfInBounds_toArray, List.set_cons_zero, List.set_cons_succ]
    refine Bk.takeD (i := 10) (some 38) (v := .pointer (some ⟨kb, 42, none⟩)) rfl rfl (by kernel_rfl) (by kernel_rfl) (by kernel_rfl) (fun _ _ _ h => h) (Or.inl ⟨by rfl, fun w' hS => by (try dsimp only at hS); go_simp⟩) hS3 ?_
    simp only [Act.put, List.setIfInBounds_toArray, List.set_cons_zero, List.set_cons_succ]
    refine wpAnyH_done (by kernel_rfl) ?_ _
    simp only [Bk.behind]
    clear hS0 hS1 hS2 hS3
    go_simp
    refine NoPanic.normal ?_
    all_goals
      have HR := Lib.hid (keepRaw_of (D := fun g => ∃ f ∈ fs, f.pv.ownBlock = some g) Hb.out Hk.out (by decide) (by decide) Hnm.out Hp.out Hl.out hb8 hown8 Hal8.out hkept9.out (by rw [HW.out]; exact hown9.out) hblk9.out (fun U hD hN => can13 Hb.out Hk.out Hp.out.2.2.1 hb8 Hal8.out hkept9.out Hx.out Hfs.out hcp8 hgl8 hqs8 hD hN))
      clear hcp8 hgl8 hqs8 hcw7 hcw8 hA8 hx9 hf9 hown9 hold9 hkept9 hblk9 hown8 hb8
      go_wp2_with fail
      exact bodyPost_ret (results_none rfl _ _ _) rfl (show KeepFr used w kb U (N + n + 1) (.slice A n cap) fs _ _ from Hend.out _ _ HR.out)
end Bk
end Go.Proofs.YtmeoafodcniliaaGreatDoor
