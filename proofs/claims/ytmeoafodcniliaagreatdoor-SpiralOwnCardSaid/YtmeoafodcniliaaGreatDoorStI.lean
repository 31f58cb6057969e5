/- pithref24.Order -/
import Derived.Test.YtmeoafodcniliaaGreatDoorStH
import Derived.Test.YtmeoafodcniliaaGreatDoorSpTa
namespace Go.Proofs.YtmeoafodcniliaaGreatDoor.C24
open Go.RowKit
set_option linter.unusedSimpArgs false
set_option linter.unusedVariables false
def DnIs (w : World) (g n : Nat) (f : Nat → Bool) : Prop := w.heap[g]? = some (.cells ((List.range n).map fun i => Value.bool (f i)).toArray 4 (0, 0))
section
variable {w w' : World} {g n : Nat} {f : Nat → Bool}
theorem DnIs.cell (h : DnIs w g n f) {i : Nat} (hi : i < n) : w.cell? ⟨g, i, none⟩ = some (.bool (f i)) := by
  rw [cell_heap h]; simp [hi]
theorem DnIs.fz (h : DnIs w g n f) (i : Nat) : w.frozen? ⟨g, i, none⟩ = false := frozen_heap h i
theorem DnIs.below {B : Nat} (h : DnIs w g n f) (hb : Below B w w') (hg : g < B) : DnIs w' g n f := (hb.block g hg).trans h
theorem DnIs.set (h : DnIs w g n f) (a : Nat) (f' : Nat → Bool) (hf : ∀ i, i < n → f' i = if i = a then true else f i) : DnIs (w.setCell ⟨g, a, none⟩ (.bool true)) g n f' := by
  unfold DnIs
  rw [heap_set h]
  congr 2
  apply Array.ext'
  simp only [Array.toList_setIfInBounds]
  apply List.ext_getElem?
  intro i
  rw [List.getElem?_set, List.length_map, List.length_range, List.getElem?_map, List.getElem?_map]
  rcases Nat.lt_or_ge i n with h1 | h1
  · rw [List.getElem?_range h1]
    by_cases h2 : a = i
    · subst h2; rw [if_pos rfl, if_pos h1]; simp [hf a h1]
    · rw [if_neg h2]; simp only [Option.map_some]; rw [hf i h1, if_neg (fun h => h2 h.symm)]
  · rw [List.getElem?_eq_none (by simpa using h1)]
    by_cases h2 : a = i
    · subst h2; rw [if_pos rfl, if_neg (by omega)]; rfl
    · rw [if_neg h2]; rfl
theorem DnIs.same (h : DnIs w g n f) {f' : Nat → Bool} (hf : ∀ i, i < n → f' i = f i) : DnIs w g n f' := by
  have e : ((List.range n).map fun i => Value.bool (f' i)) = (List.range n).map fun i => Value.bool (f i) := List.map_congr_left fun i hi => by rw [hf i (List.mem_range.1 hi)]
  unfold DnIs; rw [e]; exact h
end
theorem DnIs.start (w : World) (n : Nat) : DnIs (w.alloc (.cells (zerosB n) 4)) w.heap.size n (fun _ => false) := by
  have e : zerosB n = ((List.range n).map fun _ => Value.bool false).toArray := by
    apply Array.ext'
    rw [show zerosB n = madeCells #[.bool false] (n * 1) from rfl, toList_madeCells_one]
    simp [List.map_const']
  rw [e]; exact heap_alloc_new _ _
/-- The greatest of the first a cores, none below 0. -/
def St.mostA (zs : List Int) : Nat → Int
  | 0 => 0
  | a + 1 => max (St.mostA zs a) (zs.getD a 0)
theorem St.mostA_le (zs : List Int) : ∀ a i, i < a → zs.getD i 0 ≤ St.mostA zs a
  | a + 1, i, hi => by
    unfold St.mostA
    by_cases h : i = a
    · subst h; omega
    · have := St.mostA_le zs a i (by omega); omega
abbrev VN (l : List Nat) : List Value := (l.map fun i : Nat => (i : Int)).map VI
theorem fresh_take (zs : List Int) (dn : Nat → Bool) (next : Int) (a : Nat) : (List.range (a + 1)).filter (St.fresh zs dn next) = (List.range a).filter (St.fresh zs dn next) ++ (if St.fresh zs dn next a = true then [a] else []) := by
  rw [List.range_succ, List.filter_append, List.filter_cons]; rfl
def lenV : Value → Nat
  | .slice _ n _ => n
  | _ => 0
set_option maxHeartbeats 8000000 in
set_option maxRecDepth 20000 in
theorem Order_calls (A : Option Addr) (n cap B : Nat) (zs : List Int) (w : World) (hn : n = zs.length) (hm : n ≤ 1000000) (hz : ∀ z ∈ zs, 0 ≤ z) (hB : B ≤ w.heap.size) (hr : Rd w B A (zs.map VI)) :
    Calls Tryz.prog 99 #[.slice A n cap] w fun e w' => ∃ (T : List Int) (A' : Option Addr) (cap' : Nat), St.IsOrd zs n T ∧ e = .returned (.slice A' n cap') ∧ w'.ownsRow w.heap.size 3 1 (.slice A' n cap') n (T.map VI) ∧ Below w.heap.size w w' := by
  obtain ⟨i0, hi, hz0, hz1, hz2⟩ := info_parts infoInt
  have hmk := make_bool n n (Nat.le_refl _) (by omega)
  have Hn := Lib.hid hn; have Hr := Lib.hid hr; have Hz := Lib.hid (show ∀ i, i < n → 0 ≤ zs.getD i 0 from fun i hi => by rw [hn] at hi; simp [List.getD, List.getElem?_eq_getElem hi]; exact hz _ (List.getElem_mem _)); have Hi := Lib.hid hi
  clear hn hr hz hi
  go_enter Tryz.func99, Tryz.ntmps99
  go_wp2_with fail
  go_loopw [4, 5] (fun mv iv wr => ∃ a : Nat, mv = .int .i64 (St.mostA zs a) ∧ iv = .int .i64 (a : Int) ∧ a ≤ n ∧ w = wr) (fun _ iv _ => n - (intOf iv).toNat)
  case atStart => exact ⟨0, rfl, rfl, by omega, rfl⟩
  case round =>
    obtain ⟨a, rfl, rfl, ha, rfl⟩ := hrel
    by_cases hlt : a < n
    · have l1 : (a : Int) < (n : Int) := by omega
      obtain ⟨z, hz⟩ : ∃ z, zs[a]? = some z := ⟨zs[a]'(by rw [← Hn.out]; omega), List.getElem?_eq_getElem _⟩
      obtain ⟨b, off, hA, hbB, hcz⟩ := rd_get Hr.out hz
      subst hA
      have Hm := Lib.hid (show St.mostA zs (a + 1) = max (St.mostA zs a) z by rw [St.mostA]; simp [List.getD, hz])
      generalize St.mostA zs a = m at *
      clear hz
      by_cases hmz : m ≤ z
      · have Hm2 := Lib.hid (show St.mostA zs (a + 1) = z by rw [Hm.out]; omega)
        go_wp2_with fail
        exact ⟨⟨a + 1, by congr 1; have := Hm2.out; omega, by congr 1, by omega, by trivial⟩, by simp [intOf]; omega⟩
      · have Hm2 := Lib.hid (show St.mostA zs (a + 1) = m by rw [Hm.out]; omega)
        go_wp2_with fail
        exact ⟨⟨a + 1, by congr 1; have := Hm2.out; omega, by congr 1, by omega, by trivial⟩, by simp [intOf]; omega⟩
    · obtain rfl : a = n := by omega
      have Hst := Lib.hid (St.OrI.start zs a (St.mostA zs a) (fun i hi => St.mostA_le zs a i hi))
      generalize St.mostA zs a = m0 at *
      clear ha hlt
      go_wp2_with fail
      have Hd0 := Lib.hid (DnIs.start w a)
      have Hb0 := Lib.hid (show Below w.heap.size w (w.alloc (.cells (zerosB a) 4)) from (Below.refl _ _).alloc (Nat.le_refl _) _)
      have Hs0 := Lib.hid (show w.heap.size + 1 ≤ (w.alloc (.cells (zerosB a) 4)).heap.size by simp)
      generalize w.alloc (.cells (zerosB a) 4) = w1 at *
      clear hmk
      obtain ⟨g, hg⟩ : ∃ g, g = w.heap.size := ⟨_, rfl⟩
      rw [← hg] at Hd0 Hs0 ⊢
      have Hg := Lib.hid hg
      clear hg
      go_loopw [3, 4] (fun ov mv wr => ∃ (O : List Nat) (dn : Nat → Bool) (most : Int) (A' : Option Addr) (cap' : Nat), ov = .slice A' O.length cap' ∧ mv = .int .i64 most ∧ St.OrI zs a O dn most ∧ wr.ownsRow (g + 1) 3 1 (.slice A' O.length cap') O.length (VN O) ∧ DnIs wr g a dn ∧ Below w.heap.size w wr ∧ g + 1 ≤ wr.heap.size) (fun ov _ _ => a - lenV ov)
      case atStart => exact ⟨[], _, _, none, 0, rfl, rfl, Hst.out, World.ownsRow_nil _ _ _ _, Hd0.out, Hb0.out, Hs0.out⟩
      case round =>
        obtain ⟨O, dn, most, A1, cap1, rfl, rfl, hst, hown, hdn, hbl, hsz⟩ := hrel
        have Hst1 := Lib.hid hst; have Hown1 := Lib.hid hown; have Hdn1 := Lib.hid hdn; have Hbl1 := Lib.hid hbl; have Hsz1 := Lib.hid hsz
        obtain ⟨o, ho⟩ : ∃ o, o = O.length := ⟨_, rfl⟩
        rw [← ho] at Hown1 ⊢
        have Ho := Lib.hid ho
        clear hst hown hdn hbl hsz ho Hst Hd0 Hb0 Hs0
        generalize wr = w2 at *
        by_cases hlt : o < a
        · have l1 : (o : Int) < (a : Int) := by omega
          have Hlt := Lib.hid hlt
          clear hlt
          go_wp2_with fail
          go_loopw [7, 8] (fun nv iv wq => ∃ b : Nat, nv = .int .i64 (St.nextA zs dn b) ∧ iv = .int .i64 (b : Int) ∧ b ≤ a ∧ w2 = wq) (fun _ iv _ => a - (intOf iv).toNat)
          case atStart => exact ⟨0, rfl, rfl, by omega, rfl⟩
          case round =>
            obtain ⟨b, rfl, rfl, hb, rfl⟩ := hrel
            by_cases hba : b < a
            · have l2 : (b : Int) < (a : Int) := by omega
              obtain ⟨z, hz⟩ : ∃ z, zs[b]? = some z := ⟨zs[b]'(by rw [← Hn.out]; omega), List.getElem?_eq_getElem _⟩
              obtain ⟨bb, off, hA, hbB, hcz⟩ := rd_get (Hr.out.below Hbl1.out hB) hz
              subst hA
              have hdc := Hdn1.out.cell hba
              have Hza := Lib.hid (show zs.getD b 0 = z by simp [List.getD, hz])
              have Hnx := Lib.hid (show St.nextA zs dn (b + 1) = if dn b = false then max (St.nextA zs dn b) z else St.nextA zs dn b by rw [St.nextA, Hza.out])
              have Hup := Lib.hid (Hst1.out.up b hba)
              have Hba := Lib.hid hba
              generalize St.nextA zs dn b = m at *
              generalize hdb : dn b = db at *
              clear hz hba
              cases db with
              | true =>
                have Hm2 := Lib.hid (show St.nextA zs dn (b + 1) = m by rw [Hnx.out, if_neg (by simp)])
                clear Hnx
                go_wp2_with fail
                exact ⟨⟨b + 1, by congr 1; have := Hm2.out; omega, by congr 1, by have := Hba.out; omega, by trivial⟩, by simp [intOf]; have := Hba.out; omega⟩
              | false =>
                have hzm : z ≤ most := by have := Hup.out rfl; rw [Hza.out] at this; exact this
                by_cases hmz : m ≤ z
                · have Hm2 := Lib.hid (show St.nextA zs dn (b + 1) = z by rw [Hnx.out, if_pos rfl]; omega)
                  clear Hnx
                  go_wp2_with fail
                  exact ⟨⟨b + 1, by congr 1; have := Hm2.out; omega, by congr 1, by have := Hba.out; omega, by trivial⟩, by simp [intOf]; have := Hba.out; omega⟩
                · have Hm2 := Lib.hid (show St.nextA zs dn (b + 1) = m by rw [Hnx.out, if_pos rfl]; omega)
                  clear Hnx
                  go_wp2_with fail
                  exact ⟨⟨b + 1, by congr 1; have := Hm2.out; omega, by congr 1, by have := Hba.out; omega, by trivial⟩, by simp [intOf]; have := Hba.out; omega⟩
            · obtain rfl : b = a := by omega
              have Hle := Lib.hid (St.nextA_le zs dn b)
              have Hex := Lib.hid (St.nextA_is zs dn b Hz.out (Hst1.out.left (by have := Ho.out; have := Hlt.out; omega)))
              generalize St.nextA zs dn b = next at *
              clear hb hba
              go_wp2_with fail
              go_loopw [3, 9] (fun ov iv wq => ∃ (k : Nat) (A2 : Option Addr) (cap2 l : Nat), ov = .slice A2 l cap2 ∧ iv = .int .i64 (k : Int) ∧ k ≤ b ∧ l = (O ++ (List.range k).filter (St.fresh zs dn next)).length ∧ wq.ownsRow (g + 1) 3 1 (.slice A2 l cap2) l (VN (O ++ (List.range k).filter (St.fresh zs dn next))) ∧ DnIs wq g b (St.dnA zs dn next k) ∧ Below w.heap.size w wq ∧ g + 1 ≤ wq.heap.size) (fun _ iv _ => b - (intOf iv).toNat)
              case atStart => exact ⟨0, A1, cap1, o, rfl, rfl, by omega, by simpa using Ho.out, by simpa using Hown1.out, Hdn1.out.same (fun i hi => by simp [St.dnA]), Hbl1.out, Hsz1.out⟩
              case round =>
                obtain ⟨k, A2, cap2, l, rfl, rfl, hk, hl, hown, hdn, hbl, hsz⟩ := hrel
                have Hl := Lib.hid hl; have Hown2 := Lib.hid hown; have Hdn2 := Lib.hid hdn; have Hbl2 := Lib.hid hbl; have Hsz2 := Lib.hid hsz
                clear hl hown hdn hbl hsz
                have hlb : l ≤ 2 * b := by
                  have h1 := Hl.out
                  have h2 := List.length_filter_le (St.fresh zs dn next) (List.range k)
                  rw [List.length_append] at h1
                  simp at h2
                  have := Ho.out; have := Hlt.out; omega
                by_cases hkb : k < b
                · have l2 : (k : Int) < (b : Int) := by omega
                  obtain ⟨z, hz⟩ : ∃ z, zs[k]? = some z := ⟨zs[k]'(by rw [← Hn.out]; omega), List.getElem?_eq_getElem _⟩
                  obtain ⟨bb, off, hA, hbB, hcz⟩ := rd_get (Hr.out.below Hbl2.out hB) hz
                  subst hA
                  have hdc := Hdn2.out.cell hkb
                  have hdf := Hdn2.out.fz k
                  have Hza := Lib.hid (show zs.getD k 0 = z by simp [List.getD, hz])
                  have Hkb := Lib.hid hkb
                  have hdk : St.dnA zs dn next k k = dn k := by simp [St.dnA]
                  rw [hdk] at hdc
                  have Hft := Lib.hid (fresh_take zs dn next k)
                  have Hsame := Lib.hid (show St.fresh zs dn next k = false → ∀ i, i < b → St.dnA zs dn next (k + 1) i = St.dnA zs dn next k i from fun hf i hi => by
                    unfold St.dnA
                    by_cases h : i = k
                    · subst h; unfold St.fresh at hf; cases hd : dn i <;> simp [hd] at hf ⊢; simpa [List.getD] using hf
                    · congr 2; simp; omega)
                  have Hset := Lib.hid (show zs.getD k 0 = next → ∀ i, i < b → St.dnA zs dn next (k + 1) i = if i = k then true else St.dnA zs dn next k i from fun he i hi => by
                    unfold St.dnA
                    by_cases h : i = k
                    · subst h; rw [if_pos rfl, he]; simp
                    · rw [if_neg h]; congr 2; simp; omega)
                  have Hfr := Lib.hid (show St.fresh zs dn next k = (!dn k && z == next) by unfold St.fresh; rw [Hza.out])
                  clear hz hkb hdk
                  generalize hdb : dn k = db at *
                  cases db with
                  | true =>
                    have Hf0 := Lib.hid (show St.fresh zs dn next k = false by rw [Hfr.out]; rfl)
                    have Hft2 := Lib.hid (show (List.range (k + 1)).filter (St.fresh zs dn next) = (List.range k).filter (St.fresh zs dn next) by rw [Hft.out, if_neg (by rw [Hf0.out]; simp)]; simp)
                    clear hdb
                    go_wp2_with fail
                    exact ⟨⟨k + 1, A2, cap2, l, rfl, by congr 1, by have := Hkb.out; omega, by rw [Hft2.out]; exact Hl.out, by rw [Hft2.out]; exact Hown2.out, Hdn2.out.same (Hsame.out Hf0.out), Hbl2.out, Hsz2.out⟩, by simp [intOf]; have := Hkb.out; omega⟩
                  | false =>
                    by_cases hzn : z = next
                    · have t1 : (z == next) = true := by simpa using hzn
                      have Hf1 := Lib.hid (show St.fresh zs dn next k = true by rw [Hfr.out, t1]; rfl)
                      have Hft2 := Lib.hid (show (List.range (k + 1)).filter (St.fresh zs dn next) = (List.range k).filter (St.fresh zs dn next) ++ [k] by rw [Hft.out, if_pos Hf1.out])
                      have Hdn3 := Lib.hid (Hdn2.out.set k (St.dnA zs dn next (k + 1)) (Hset.out (by rw [Hza.out]; exact hzn)))
                      have Hown3 := Lib.hid (own_low (gx := g) Hown2.out (Nat.lt_succ_self g) (Upd.setCell wr k (.bool true)))
                      have Hbl3 := Lib.hid (Hbl2.out.trans ((Upd.setCell (g := g) wr k (.bool true)).below (B := w.heap.size) (by have := Hg.out; omega) Hbl2.out.size))
                      have Hsz3 := Lib.hid (show g + 1 ≤ (wr.setCell ⟨g, k, none⟩ (.bool true)).heap.size from Nat.le_trans Hsz2.out (Upd.setCell (g := g) wr k (.bool true)).size)
                      have Hown4 := Lib.hid (own_below Hown3.out ((Below.refl (wr.setCell ⟨g, k, none⟩ (.bool true)).heap.size (wr.setCell ⟨g, k, none⟩ (.bool true))).alloc (Nat.le_refl _) (.cells #[.int .i64 (k : Int)] 3)) (Nat.le_refl _))
                      have Hsz4 := Lib.hid (show g + 1 ≤ ((wr.setCell ⟨g, k, none⟩ (.bool true)).alloc (.cells #[.int .i64 (k : Int)] 3)).heap.size from Nat.le_trans Hsz3.out (by simp))
                      have Hrd4 := Lib.hid (show Rd ((wr.setCell ⟨g, k, none⟩ (.bool true)).alloc (.cells #[.int .i64 (k : Int)] 3)) ((wr.setCell ⟨g, k, none⟩ (.bool true)).heap.size + 1) (some ⟨wr.heap.size, 0, none⟩) [.int .i64 (k : Int)] from by
                        have he : (wr.setCell ⟨g, k, none⟩ (.bool true)).heap.size = wr.heap.size := by simp [World.setCell]
                        rw [← he]; exact rd_fresh _ _ _ _ _ _ rfl rfl)
                      have hlb2 : l + 1 ≤ 3000000 := by have := Hkb.out; omega
                      clear hdb hzn hlb
                      go_wp2_with (at_builtin; refine wpList_append_rd rfl _ _ 84 rfl (g + 1) 3 i0 _ 8 descInts Hi.out hz0 hz1 hz2 rfl _ l (VN (O ++ (List.range k).filter (St.fresh zs dn next))) rfl Hown4.out _ (some ⟨wr.heap.size, 0, none⟩) 1 1 [.int .i64 (k : Int)] rfl rfl (by intro h; cases h) Hrd4.out (by intro u hu; simp at hu; subst hu; rfl) (by unfold maxLen; omega) (by omega) Hsz4.out ?_)
                      intro v4 w4 hown4 hg4
                      obtain ⟨A4, cap4, rfl, _, _, _⟩ := own_form hown4
                      have Hx4 := Lib.hid (And.intro hown4 hg4)
                      clear hown4 hg4
                      go_wp2_with fail
                      have hsz5 : g + 1 ≤ w4.heap.size := Nat.le_trans Hsz4.out Hx4.out.2.size
                      have hlow : ∀ x, (Value.slice A2 l cap2).ownBlock = some x → g + 1 ≤ x := fun x hx => (Hown4.out.lt x hx).1
                      have hb5 : Below w.heap.size w w4 := (Hbl3.out.alloc Hbl3.out.size _).grown Hx4.out.2 (by have := Hg.out; have := Hsz4.out; omega) fun x hx => by have := hlow x hx; have := Hg.out; omega
                      have hb6 : Below (g + 1) (wr.setCell ⟨g, k, none⟩ (.bool true)) w4 := ((Below.refl (g + 1) _).alloc Hsz3.out _).grown Hx4.out.2 Hsz4.out hlow
                      have hdn5 := Hdn3.out.below hb6 (Nat.lt_succ_self g)
                      have hown5 : w4.ownsRow (g + 1) 3 1 (.slice A4 (l + 1) cap4) (l + 1) (VN (O ++ (List.range (k + 1)).filter (St.fresh zs dn next))) := by
                        have := Hx4.out.1
                        rw [Hft2.out]; simpa using this
                      refine ⟨⟨k + 1, A4, cap4, l + 1, rfl, by congr 1, by have := Hkb.out; omega, ?_, hown5, hdn5, hb5, hsz5⟩, by simp [intOf]; have := Hkb.out; omega⟩
                      have h1 := Hl.out
                      rw [Hft2.out, ← List.append_assoc, List.length_append, ← h1]; rfl
                    · have t1 : (z == next) = false := by simpa using hzn
                      have Hf0 := Lib.hid (show St.fresh zs dn next k = false by rw [Hfr.out, t1]; rfl)
                      have Hft2 := Lib.hid (show (List.range (k + 1)).filter (St.fresh zs dn next) = (List.range k).filter (St.fresh zs dn next) by rw [Hft.out, if_neg (by rw [Hf0.out]; simp)]; simp)
                      clear hdb hzn
                      go_wp2_with fail
                      exact ⟨⟨k + 1, A2, cap2, l, rfl, by congr 1, by have := Hkb.out; omega, by rw [Hft2.out]; exact Hl.out, by rw [Hft2.out]; exact Hown2.out, Hdn2.out.same (Hsame.out Hf0.out), Hbl2.out, Hsz2.out⟩, by simp [intOf]; have := Hkb.out; omega⟩
                · obtain rfl : k = b := by omega
                  have Hst3 := Lib.hid (Hst1.out.step Hle.out)
                  have Hgr := Lib.hid (St.OrI.grows Hex.out)
                  clear hkb hk
                  go_wp2_with fail
                  refine ⟨⟨O ++ (List.range k).filter (St.fresh zs dn next), _, next, A2, cap2, by rw [← Hl.out], rfl, Hst3.out, by rw [← Hl.out]; exact Hown2.out, Hdn2.out, Hbl2.out, Hsz2.out⟩, ?_⟩
                  have h1 := Hl.out; have h2 := Hgr.out; have h3 := Ho.out; have h4 := Hlt.out
                  rw [List.length_append] at h1
                  simp [lenV]; omega
        · have Hall := Lib.hid (Hst1.out.done (by have := Ho.out; omega))
          have hoa : o = a := by have := Hall.out.len; have := Ho.out; simp at *; omega
          subst hoa
          clear hlt
          go_wp2_with fail
          go_ret
          exact ⟨_, A1, cap1, Hall.out, rfl, own_base Hown1.out (by have := Hg.out; omega), Hbl1.out⟩
end Go.Proofs.YtmeoafodcniliaaGreatDoor.C24
