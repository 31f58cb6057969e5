/- pithref3.Row -/
import Derived.Test.YtnbagbenpojpnaaDoorFrRows
namespace Go.Proofs.YtnbagbenpojpnaaDoor
open Go.RowKit
set_option linter.unusedSimpArgs false
set_option linter.unusedVariables false
attribute [local go_sem ↓] loadF storeF
attribute [local go_sem] isLoadOf loadArg isRowAt_ptr rowAt_ptr blkOf_ptr aggOf_agg isAggV_agg isRow_alloc_new pair_cells
set_option maxHeartbeats 4000000 in
theorem rrow_calls (A : Option Addr) (n cap B : Nat) (bs : List (BitVec 8)) (w : World) (hn : n = bs.length) (hm : n ≤ 1099511627776) (hr : Rd w B A (bs.map V8)) (hB : B ≤ w.heap.size) (hcp : n ≤ cap) (hcm : cap ≤ maxLen) :
    Calls Tryd.prog 24 #[.slice A n cap] w (RowAns bs w) := by
  obtain ⟨i0, hi, hz0, hz1, hz2⟩ := info_parts infoFr
  have Hi := Lib.hid hi; clear hi
  have Hr := Lib.hid hr; have Hn := Lib.hid hn
  unfold maxLen at hcm
  clear hr hn
  go_enter Tryd.func24, Tryd.ntmps24
  go_wp2_with fail
  go_loopw [5, 6] (fun l at' wr => ∃ (a f : Nat) (fs : FrL) (cells : List Value), at' = .int .i64 (a : Int) ∧ a ≤ n ∧ n ≤ a + f ∧ Fr.rows bs.length bs = fs ++ Fr.rows f (bs.drop a) ∧ Fr.rowsAt bs.length bs = a + Fr.rowsAt f (bs.drop a) ∧ fs.length * 12 ≤ a ∧
      wr.ownsRow w.heap.size 24 2 l fs.length cells ∧ FrSl wr w.heap.size cells fs ∧ Below w.heap.size w wr) (fun _ i _ => n - (intOf i).toNat)
  case atStart =>
    exact ⟨0, n, [], [], rfl, by omega, by omega, by rw [Hn.out]; rfl, by rw [Hn.out]; simp, by simp, ⟨rfl, Or.inl ⟨rfl, rfl⟩⟩, FrSl.nil _ _, Below.refl _ _⟩
  case round =>
    obtain ⟨a, f, fs, cells, rfl, ha, hf, hrows, hat, hfs, hown, hsl, hbl⟩ := hrel
    obtain ⟨A', cap', rfl⟩ := own_size hown
    have Hrows := Lib.hid hrows; have Hat := Lib.hid hat; have Hown := Lib.hid hown; have Hsl := Lib.hid hsl; have Hbl := Lib.hid hbl
    have hsz := hbl.size
    clear hrows hat hown hsl hbl
    by_cases hlt : a < n
    · obtain ⟨blk, off, rfl, hblk, _⟩ := Hr.out.at_ (k := 0) (by rw [List.length_map, ← Hn.out]; omega)
      obtain ⟨f, rfl⟩ : ∃ f', f = f' + 1 := ⟨f - 1, by omega⟩
      have hai : (a : Int) < (n : Int) := by omega
      have hac : (a : Int) ≤ (cap : Int) := by omega
      have hne : (cap = a) = False := by rw [eq_iff_iff]; constructor <;> intro hx <;> first | omega | cases hx
      have Hrd := Lib.hid (rd_drop8 (Hr.out.below Hbl.out hB) a)
      have Hdl := Lib.hid (show n - a = (bs.drop a).length by rw [List.length_drop, ← Hn.out])
      go_wp2_with fail
      refine (rdecode_calls (some ⟨blk, off + a, none⟩) (n - a) (cap - a) B (bs.drop a) _ Hdl.out (by unfold maxLen; omega) Hrd.out (by omega) (by omega)).mono ?_
      rintro e w2 ⟨hb2, hans⟩
      have hs2 := hb2.size
      have Hbl2 := Lib.hid (Hbl.out.trans (hb2.mono hsz))
      have Hown2 := Lib.hid (own_below_s Hown.out hb2 (Nat.le_refl _))
      have Hsl2 := Lib.hid (Hsl.out.below hb2 (Nat.le_refl _))
      clear hb2
      rcases hans with ⟨hg, rfl⟩ | ⟨hg, A2, cap2, rfl, hown2⟩
      · have Hr0 := Lib.hid (Fr.rows_bad (f := f + 1) hg); have Ha0 := Lib.hid (Fr.rowsAt_bad (f := f + 1) hg)
        clear hg
        go_wp2_with fail
        go_ret3
        refine ⟨Hbl2.out.trans ?_, A', cap', cells, ?_, ?_, ?_⟩
        · exact below_setRow ((Below.refl _ _).alloc Hbl2.out.size _) Hbl2.out.size _
        · rw [Hrows.out, Hat.out, Hr0.out, Ha0.out, List.append_nil, Nat.add_zero, if_neg (by rw [← Hn.out]; omega)]; rfl
        · rw [Hrows.out, Hr0.out, List.append_nil]
          exact own_below_s Hown2.out (below_setRow ((Below.refl _ _).alloc (Nat.le_refl _) _) (Nat.le_refl _) _) (Nat.le_refl _)
        · rw [Hrows.out, Hr0.out, List.append_nil]
          exact Hsl2.out.below (below_setRow ((Below.refl _ _).alloc (Nat.le_refl _) _) (Nat.le_refl _) _) (Nat.le_refl _)
      · have hgl := Fr.good_len hg
        rw [← Hdl.out] at hgl
        have hg1 := Fr.good_nOf hg
        have Hr1 := Lib.hid (Fr.rows_good (f := f) hg); have Ha1 := Lib.hid (Fr.rowsAt_good (f := f) hg)
        have hpl := Fr.pOf_length (b := bs.drop a) (by rw [← Hdl.out]; omega)
        have Hpl := Lib.hid hpl
        obtain ⟨p, hp⟩ : ∃ p, p = Fr.pOf (bs.drop a) := ⟨_, rfl⟩
        obtain ⟨m, hmm⟩ : ∃ m, m = Fr.nOf (bs.drop a) := ⟨_, rfl⟩
        obtain ⟨kb, hkb⟩ : ∃ kb, kb = Fr.kOf (bs.drop a) := ⟨_, rfl⟩
        rw [← hp, ← hmm] at Hpl
        rw [← hp, ← hmm, ← hkb] at Hr1
        rw [← hmm] at Ha1
        rw [← hmm] at hgl hg1
        rw [← hp, ← hmm] at hown2
        rw [← hmm, ← hkb]
        have Hown3 := Lib.hid (own_base hown2 (show w.heap.size ≤ _ from hsz))
        clear hp hmm hkb hg hown2 hpl
        have hpc : Cells1 #[.int .i64 (n8 kb : Int), .slice A2 m cap2] 2 := pair_cells _ _ _ _
        have hh3 : ((w2.alloc (.cells #[.int .i64 0, .slice none 0 0] 24)).setRow w2.heap.size #[.int .i64 (n8 kb : Int), .slice A2 m cap2]).heap[w2.heap.size]? = some (.cells #[.int .i64 (n8 kb : Int), .slice A2 m cap2] 24 (0, 0)) :=
          setRow_heap _ _ _ _ _ _ (heap_alloc_new _ _)
        have hrow3 : IsRow ((w2.alloc (.cells #[.int .i64 0, .slice none 0 0] 24)).setRow w2.heap.size #[.int .i64 (n8 kb : Int), .slice A2 m cap2]) w2.heap.size 24 2 := ⟨_, hh3, rfl⟩
        have hro3 := rowOf_eq hh3
        have hb3 : Below w2.heap.size w2 (((w2.alloc (.cells #[.int .i64 0, .slice none 0 0] 24)).setRow w2.heap.size #[.int .i64 (n8 kb : Int), .slice A2 m cap2]).alloc (.cells #[.int .i64 (n8 kb : Int), .slice A2 m cap2] 24)) :=
          (below_setRow ((Below.refl _ _).alloc (Nat.le_refl _) _) (Nat.le_refl _) _).alloc (by simp) _
        have hnew : (((w2.alloc (.cells #[.int .i64 0, .slice none 0 0] 24)).setRow w2.heap.size #[.int .i64 (n8 kb : Int), .slice A2 m cap2]).alloc (.cells #[.int .i64 (n8 kb : Int), .slice A2 m cap2] 24)).heap[w2.heap.size + 1]? = some (.cells #[.int .i64 (n8 kb : Int), .slice A2 m cap2] 24 (0, 0)) := by
          have := heap_alloc_new ((w2.alloc (.cells #[.int .i64 0, .slice none 0 0] 24)).setRow w2.heap.size #[.int .i64 (n8 kb : Int), .slice A2 m cap2]) (.cells #[.int .i64 (n8 kb : Int), .slice A2 m cap2] 24)
          simpa using this
        have Hc1 := Lib.hid (show ∀ (j : Nat) (u : Value), [.int .i64 (n8 kb : Int), .slice A2 m cap2][j]? = some u → (((w2.alloc (.cells #[.int .i64 0, .slice none 0 0] 24)).setRow w2.heap.size #[.int .i64 (n8 kb : Int), .slice A2 m cap2]).alloc (.cells #[.int .i64 (n8 kb : Int), .slice A2 m cap2] 24)).cell? ((⟨w2.heap.size + 1, 0, none⟩ : Addr).add j) = some u from fun j u hu => by
          rw [Addr.add_lit, Nat.zero_add, cell_heap hnew]; simpa using hu)
        have Hb3 := Lib.hid hb3
        have Hown4 := Lib.hid (own_below_s Hown2.out hb3 (Nat.le_refl _))
        have hs3 := hb3.size
        have hwf : IntKind.i64.wrap ((a : Int) + ((m : Int) + 12)) = (a : Int) + ((m : Int) + 12) := IntWalk.i64_in _ (by omega)
        have hone : ∀ u ∈ ([.int .i64 (n8 kb : Int), .slice A2 m cap2] : List Value), u.oneCell' = true := by intro u hu; simp at hu; rcases hu with rfl | rfl <;> rfl
        have Hone := Lib.hid hone
        have hsb : w.heap.size ≤ (((w2.alloc (.cells #[.int .i64 0, .slice none 0 0] 24)).setRow w2.heap.size #[.int .i64 (n8 kb : Int), .slice A2 m cap2]).alloc (.cells #[.int .i64 (n8 kb : Int), .slice A2 m cap2] 24)).heap.size := by omega
        have Hsb := Lib.hid hsb
        clear hh3 hb3 hnew hone hsb hs3
        go_wp2_with (at_builtin; refine wpList_append_own _ rfl _ _ 42 rfl w.heap.size 24 i0 _ 2 32 descFrs Hi.out hz0 hz1 hz2 rfl (by decide) _ fs.length cells rfl Hown4.out ⟨w2.heap.size + 1, 0, none⟩ 1 1 [.int .i64 (n8 kb : Int), .slice A2 m cap2] rfl rfl Hc1.out Hone.out (by unfold maxLen; omega) (by omega) Hsb.out ?_; intro v5 w5 hown5 hg5 _; obtain ⟨A5, cap5, rfl⟩ := own_size hown5)
        have hg6 := show World.grownBy _ w5 (Value.slice A' fs.length cap').ownBlock from hg5
        have hne5 : (5 : Nat) ≠ 24 := by decide
        have hsl5 := ((Hsl2.out.below Hb3.out (Nat.le_refl _)).go fun _ _ _ _ ho => own_grown_other ho Hown4.out hne5 hg6).snoc (k := kb) (p := p) (A := A2) (cap := cap2) (by
          rw [Hpl.out]; exact own_grown_other (own_below Hown3.out Hb3.out (Nat.le_refl _)) Hown4.out hne5 hg6)
        have hb5 : Below w.heap.size w w5 := (Hbl2.out.trans (Hb3.out.mono Hbl2.out.size)).grown hg6 Hsb.out fun k hk => (Hown4.out.lt k hk).1
        have Hsl5 := Lib.hid hsl5; have Hb5 := Lib.hid hb5; have Hown5 := Lib.hid hown5
        clear hsl5 hb5 hown5 hg5 hg6 hrow3 hro3 hpc hne5
        go_wp2_with fail
        go_roundw
        case rel =>
          refine ⟨a + (m + 12), f, fs ++ [(kb, p)], cells ++ [.int .i64 (n8 kb : Int), .slice A2 m cap2], ?_, by omega, by omega, ?_, ?_, ?_, ?_, ?_, Hb5.out⟩
          · congr 1
          · rw [Hrows.out, Hr1.out, List.append_assoc, List.drop_drop]; rfl
          · rw [Hat.out, Ha1.out, List.drop_drop]; omega
          · rw [List.length_append]; show (fs.length + 1) * 12 ≤ _; omega
          · rw [List.length_append]; exact Hown5.out
          · have := Hsl5.out; rw [Hpl.out] at this; exact this
        case measure => simp [intOf]; omega
    · go_wp2_with fail
      go_ret3
      have han : a = n := by omega
      subst han
      have hd : bs.drop a = [] := List.drop_eq_nil_of_le (by rw [Hn.out]; exact Nat.le_refl _)
      have hr0 := Hrows.out; have ha0 := Hat.out
      rw [hd, Fr.rows_nil, List.append_nil] at hr0
      rw [hd, Fr.rowsAt_nil, Nat.add_zero] at ha0
      refine ⟨Hbl.out, A', cap', cells, ?_, ?_, ?_⟩
      · rw [hr0, ha0, if_pos Hn.out]; rfl
      · rw [hr0]; exact Hown.out
      · rw [hr0]; exact Hsl.out
end Go.Proofs.YtnbagbenpojpnaaDoor
