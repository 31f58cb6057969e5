/- text.row -/
import Derived.Test.YtmeoafodcniliaaGreatDoorTxR
import Derived.Lib.ItoaLen
namespace Go.Proofs.YtmeoafodcniliaaGreatDoor.C4
open Go.RowKit
set_option linter.unusedSimpArgs false
set_option linter.unusedVariables false
namespace Tx
/-- The digits of a number. -/
def digs (z : Int) : List By := (Lib.itoa z).map UInt8.toBitVec
def sepF (bs : List By) : List By := match bs.getLast? with | none => bs | some c => if n8 c = 10 then bs else bs ++ [32#8]
def rowF : List By → List Int → List By
  | bs, [] => bs ++ [10#8]
  | bs, z :: zs => rowF (sepF bs ++ digs z) zs
theorem digs_length (z : Int) : (digs z).length = (Lib.itoa z).length := by unfold digs; simp
theorem sepF_length (bs : List By) : (sepF bs).length ≤ bs.length + 1 := by
  unfold sepF
  cases bs.getLast? with
  | none => simp
  | some c => dsimp only; split <;> simp
end Tx
theorem byteCells_digs (z : Int) : Lib.byteCells (Lib.itoa z) = (Tx.digs z).map V8 := by
  unfold Lib.byteCells Tx.digs
  rw [List.map_map]
  apply List.map_congr_left
  intro b _
  rfl
theorem strCells_of (ws : List (BitVec 8)) : Lib.strCells (strOf ws) = ws.map V8 := by
  unfold Lib.strCells strOf
  simp [List.map_map]
  intro a _
  rfl
abbrev Pow (B : Nat) (w : World) : Prop := Lib.TabBelow Tryz.prog B w "internal/strconv.uint64pow10" .u64 Lib.pow10Tab
abbrev VN (z : Int) : Value := .int .i64 z
set_option maxHeartbeats 8000000 in
set_option maxRecDepth 20000 in
theorem row_calls (B : Nat) (sv : Value) (bs ws : List (BitVec 8)) (s : ByteArray) (g k : Nat) (zs : List Int) (w : World) (hown : w.ownsRow B 5 1 sv bs.length (bs.map V8)) (hs : s = strOf ws) (hB : B ≤ w.heap.size) (hlen : bs.length ≤ 1000000000000) (hws : ws.length ≤ 100)
    (hk : k = zs.length) (hk2 : k ≤ 100) (hg : w.heap[g]? = some (.cells (zs.map VN).toArray 3 (0, 0))) (hz : ∀ z ∈ zs, -9223372036854775808 ≤ z ∧ z ≤ 9223372036854775807) (ht : Pow B w) :
    Calls Tryz.prog 67 #[sv, .string s, .slice (some ⟨g, 0, none⟩) k k] w fun e w' => ∃ v', e = .returned v' ∧ w'.ownsRow B 5 1 v' (Tx.rowF (bs ++ ws) zs).length ((Tx.rowF (bs ++ ws) zs).map V8) ∧ Below B w w' := by
  subst hs
  obtain ⟨i8, h8, h80, h81, h82⟩ := info_parts infoU8
  have H8 := Lib.hid h8
  have Hown := Lib.hid hown; have Hk := Lib.hid hk; have Hg := Lib.hid hg; have Htab := Lib.hid ht; have Hz := Lib.hid hz
  have hsl := strOf_size ws
  have Hsl := Lib.hid hsl
  have Hst := Lib.hid (strCells_of ws)
  have hss : (strOf ws).size ≤ 100 := by omega
  clear hown hk hg ht h8 hsl
  generalize strOf ws = s at *
  go_enter Tryz.func67, Tryz.ntmps67
  go_wp2_with (at_builtin; refine Lib.wpList_append_own_string _ rfl _ _ 22 9 rfl B 5 i8 descU8s descStr H8.out h80 h81 h82 sv bs.length (bs.map V8) rfl Hown.out s rfl (by unfold maxLen; omega) (by omega) hB ?_; intro v1 w1 hown1 hg1 _; have Hown1 := Lib.hid hown1; have Hg1 := Lib.hid hg1; clear hown1 hg1)
  have hsw : s.size = ws.length := Hsl.out
  have hb1 : Below B w w1 := (Below.refl B w).grown Hg1.out hB fun x hx => (Hown.out.lt x hx).1
  have hc1 : w1.ownsRow B 5 1 v1 (bs ++ ws).length ((bs ++ ws).map V8) := by
    have := Hown1.out
    rw [Hst.out, ← List.map_append, hsw, ← List.length_append] at this
    exact this
  have hg1 : w1.heap[g]? = some (.cells (zs.map VN).toArray 3 (0, 0)) := by
    rw [← Hg.out]
    refine (Keep.grown Hg1.out).block g (lt_heap Hg.out) (fun hm => ?_)
    have hm' : sv.ownBlock = some g := by simpa using hm
    rcases Hown.out.2 with ⟨h3, _⟩ | ⟨g1, _, _, h3, _, h4, _⟩
    · rw [h3] at hm'; cases hm'
    · rw [h3] at hm'; injection hm' with hm'; simp only at hm'; subst hm'
      rw [Hg.out] at h4; injection h4 with h4; injection h4 with _ h4; exact absurd h4 (by decide)
  have hcl : (bs ++ ws).length ≤ 1000000000100 := by rw [List.length_append]; omega
  have Hc1 := Lib.hid hc1; have Hg1' := Lib.hid hg1; have Hb1 := Lib.hid hb1
  clear hc1 hg1 hb1 Hown1 Hg1 Hst hsw
  obtain ⟨c0, hc0⟩ : ∃ c, bs ++ ws = c := ⟨_, rfl⟩
  rw [hc0] at Hc1 hcl
  have Hc0 := Lib.hid hc0
  clear hc0
  go_loopw [0, 14] (fun v iv wr => ∃ (a : Nat) (cs : List (BitVec 8)), iv = .int .i64 (a : Int) ∧ wr.ownsRow B 5 1 v cs.length (cs.map V8) ∧ Below B w wr ∧ wr.heap[g]? = some (.cells (zs.map VN).toArray 3 (0, 0)) ∧ a ≤ k ∧ cs.length ≤ 1000000000100 + 22 * a ∧
    Tx.rowF c0 zs = Tx.rowF cs (zs.drop a)) (fun _ iv _ => k - (intOf iv).toNat)
  case atStart => exact ⟨0, c0, rfl, Hc1.out, Hb1.out, Hg1'.out, by omega, by omega, rfl⟩
  case round =>
    obtain ⟨a, cs, rfl, hown, hbr, hgr, ha, hcs, hrow⟩ := hrel
    obtain ⟨A1, cap1, rfl, hcc, hcm, _⟩ := own_form hown
    have Hor := Lib.hid hown; have Hbr := Lib.hid hbr; have Hgr := Lib.hid hgr; have Hrow := Lib.hid hrow
    have hbs := hbr.size
    clear hown hbr hgr hrow
    by_cases hlt : a < k
    · have q1 : (a : Int) < (k : Int) := by omega
      obtain ⟨z, hza⟩ : ∃ z, zs[a]? = some z := ⟨zs[a]'(by rw [← Hk.out]; omega), List.getElem?_eq_getElem _⟩
      have hcell : wr.cell? ⟨g, a, none⟩ = some (.int .i64 z) := by rw [cell_heap Hgr.out]; simp [hza]
      have hdrop : zs.drop a = z :: zs.drop (a + 1) := by
        rw [List.drop_eq_getElem_cons (by rw [← Hk.out]; omega)]; congr 1
        exact (List.getElem?_eq_some_iff.1 hza).2
      have Hrow2 := Lib.hid (show Tx.rowF c0 zs = Tx.rowF (Tx.sepF cs ++ Tx.digs z) (zs.drop (a + 1)) by rw [Hrow.out, hdrop]; rfl)
      have Hza := Lib.hid hza
      clear hza hdrop
      cases hl : cs.getLast? with
      | none =>
        have hnil : cs = [] := by simpa using hl
        subst hnil
        obtain ⟨cs2, hcs2⟩ : ∃ x : List (BitVec 8), x = [] := ⟨_, rfl⟩
        have Hsep := Lib.hid (show Tx.sepF [] = cs2 by rw [hcs2]; rfl)
        obtain ⟨wx, hwx⟩ : ∃ x, x = wr := ⟨_, rfl⟩
        have Hox := Lib.hid (show wx.ownsRow B 5 1 (.slice A1 0 cap1) cs2.length (cs2.map V8) by rw [hwx, hcs2]; exact Hor.out)
        have Hbx := Lib.hid (show Below B w wx by rw [hwx]; exact Hbr.out); have Hgx := Lib.hid (show wx.heap[g]? = some (.cells (zs.map VN).toArray 3 (0, 0)) by rw [hwx]; exact Hgr.out)
        have hcs2l : cs2.length ≤ 1000000000100 + 22 * a + 1 := by rw [hcs2]; simp
        clear hl hcs Hor Hbr Hgr hcs2
        subst hwx
        go_wp2_with fail
        have hbx3 := Hbx.out.size
        refine (Tryz.strconv_AppendInt_10 B cs2.length z (hz z (List.mem_of_getElem? Hza.out)).1 (hz z (List.mem_of_getElem? Hza.out)).2 _ (cs2.map V8) wx Hox.out (by omega) (by omega) (Htab.out.on Hbx.out)).mono ?_
        rintro en w9 ⟨v9, rfl, hown9, hb9, hoth9⟩
        rw [byteCells_digs, ← Tx.digs_length, ← List.map_append, ← List.length_append] at hown9
        have hg9 := hoth9 g _ Hgx.out (by intro h; cases h) (by intro c fz h; injection h with _ h; exact absurd h (by decide))
        have Hown9 := Lib.hid hown9; have Hg9 := Lib.hid hg9; have Hb9 := Lib.hid (Hbx.out.trans hb9)
        have hdl := Lib.itoa_length_le z (hz z (List.mem_of_getElem? Hza.out)).1 (hz z (List.mem_of_getElem? Hza.out)).2
        rw [← Tx.digs_length] at hdl
        clear hown9 hg9 hb9 hoth9
        go_wp2_with fail
        go_roundw
        case rel =>
          refine ⟨a + 1, cs2 ++ Tx.digs z, by congr 1, Hown9.out, Hb9.out, Hg9.out, by omega, by rw [List.length_append]; omega, ?_⟩
          rw [Hrow2.out, Hsep.out]
        case measure => simp [intOf]; omega
      | some c =>
        have hne : cs ≠ [] := by rintro rfl; cases hl
        have hpos : 0 < cs.length := List.length_pos_iff.2 hne
        have hlast : cs[cs.length - 1]? = some c := by rw [← List.getLast?_eq_getElem?]; exact hl
        obtain ⟨bb, off, rfl, hbb, hcl2⟩ := own_rd Hor.out (cs.length - 1) (V8 c) (by rw [List.getElem?_map, hlast]; rfl)
        have hint : ((cs.length : Int) - 1) = ((cs.length - 1 : Nat) : Int) := by omega
        have hq1 : (0 : Int) < (cs.length : Int) := by omega
        have hq2 : (cs.length : Int) - 1 < (cs.length : Int) := by omega
        have hcs3 : cs.length ≤ 1000000010000 := by omega
        clear hint hlast
        by_cases hc : n8 c = 10
        · obtain ⟨cs2, hcs2⟩ : ∃ x : List (BitVec 8), x = cs := ⟨_, rfl⟩
          have Hsep := Lib.hid (show Tx.sepF cs = cs2 by rw [hcs2]; unfold Tx.sepF; rw [hl]; dsimp only; rw [if_pos hc])
          have t1 : ((n8 c : Int) != 10) = false := by simp; omega
          obtain ⟨wx, hwx⟩ : ∃ x, x = wr := ⟨_, rfl⟩
          have Hox := Lib.hid (show wx.ownsRow B 5 1 (.slice (some ⟨bb, off, none⟩) cs.length cap1) cs2.length (cs2.map V8) by rw [hwx, hcs2]; exact Hor.out)
          have Hbx := Lib.hid (show Below B w wx by rw [hwx]; exact Hbr.out); have Hgx := Lib.hid (show wx.heap[g]? = some (.cells (zs.map VN).toArray 3 (0, 0)) by rw [hwx]; exact Hgr.out)
          have hcs2l : cs2.length ≤ 1000000000100 + 22 * a + 1 := by rw [hcs2]; omega
          clear hl Hor Hbr Hgr hcs2 hc
          subst hwx
          go_wp2_with fail
          have hbx3 := Hbx.out.size
          refine (Tryz.strconv_AppendInt_10 B cs2.length z (hz z (List.mem_of_getElem? Hza.out)).1 (hz z (List.mem_of_getElem? Hza.out)).2 _ (cs2.map V8) wx Hox.out (by omega) (by omega) (Htab.out.on Hbx.out)).mono ?_
          rintro en w9 ⟨v9, rfl, hown9, hb9, hoth9⟩
          rw [byteCells_digs, ← Tx.digs_length, ← List.map_append, ← List.length_append] at hown9
          have hg9 := hoth9 g _ Hgx.out (by intro h; cases h) (by intro c fz h; injection h with _ h; exact absurd h (by decide))
          have Hown9 := Lib.hid hown9; have Hg9 := Lib.hid hg9; have Hb9 := Lib.hid (Hbx.out.trans hb9)
          have hdl := Lib.itoa_length_le z (hz z (List.mem_of_getElem? Hza.out)).1 (hz z (List.mem_of_getElem? Hza.out)).2
          rw [← Tx.digs_length] at hdl
          clear hown9 hg9 hb9 hoth9
          go_wp2_with fail
          go_roundw
          case rel =>
            refine ⟨a + 1, cs2 ++ Tx.digs z, by congr 1, Hown9.out, Hb9.out, Hg9.out, by omega, by rw [List.length_append]; omega, ?_⟩
            rw [Hrow2.out, Hsep.out]
          case measure => simp [intOf]; omega
        · have hn10 : ((n8 c : Int) != 10) = true := by simp; omega
          have hb9 : Below wr.heap.size wr (wr.alloc (.cells #[.int .u8 32] 5)) := (Below.refl _ _).alloc (Nat.le_refl _) _
          have Hoy := Lib.hid (own_below Hor.out hb9 (Nat.le_refl _))
          have Hrd := Lib.hid (rd_new wr [.int .u8 32] #[.int .u8 32] 5 rfl)
          have Hby := Lib.hid (Hbr.out.trans (hb9.mono (by omega)))
          have Hgy := Lib.hid (show (wr.alloc (.cells #[.int .u8 32] 5)).heap[g]? = some (.cells (zs.map VN).toArray 3 (0, 0)) by rw [hb9.block g (lt_heap Hgr.out)]; exact Hgr.out)
          have hsb : B ≤ (wr.alloc (.cells #[.int .u8 32] 5)).heap.size := by simp; omega
          have Hsep0 := Lib.hid (show Tx.sepF cs = cs ++ [32#8] by unfold Tx.sepF; rw [hl]; dsimp only; rw [if_neg hc])
          clear hb9 hl hc
          go_wp2_with (at_builtin; refine wpList_append_rd rfl _ _ 22 rfl B 5 i8 _ 1 descU8s H8.out h80 h81 h82 rfl _ cs.length (cs.map V8) rfl Hoy.out _ (some ⟨wr.heap.size, 0, none⟩) 1 1 [.int .u8 32] rfl rfl (by intro h; cases h) Hrd.out (by intro u hu; simp at hu; subst hu; rfl) (by unfold maxLen; omega) (by omega) hsb ?_; intro v9 wx hown9 hg9; have Hown0 := Lib.hid hown9; have Hgw0 := Lib.hid (show World.grownBy _ wx (Value.slice (some ⟨bb, off, none⟩) cs.length cap1).ownBlock from hg9); clear hown9 hg9)
          obtain ⟨cs2, hcs2⟩ : ∃ x : List (BitVec 8), x = cs ++ [32#8] := ⟨_, rfl⟩
          have Hsep := Lib.hid (show Tx.sepF cs = cs2 by rw [hcs2]; exact Hsep0.out)
          have Hox := Lib.hid (show wx.ownsRow B 5 1 v9 cs2.length (cs2.map V8) by rw [hcs2, List.length_append, List.map_append]; exact Hown0.out)
          have Hbx := Lib.hid (Hby.out.grown Hgw0.out hsb fun x hx => (Hoy.out.lt x hx).1)
          have Hgx := Lib.hid (show wx.heap[g]? = some (.cells (zs.map VN).toArray 3 (0, 0)) by
            rw [← Hgy.out]
            refine (Keep.grown Hgw0.out).block g (lt_heap Hgy.out) (fun hm => ?_)
            have hm' : (Value.slice (some ⟨bb, off, none⟩) cs.length cap1).ownBlock = some g := by simpa using hm
            rcases Hoy.out.2 with ⟨h3, _⟩ | ⟨g1, _, _, h3, _, h4, _⟩
            · rw [h3] at hm'; cases hm'
            · rw [h3] at hm'; injection hm' with hm'; simp only at hm'; subst hm'
              rw [Hgy.out] at h4; injection h4 with h4; injection h4 with _ h4; exact absurd h4 (by decide))
          have hcs2l : cs2.length ≤ 1000000000100 + 22 * a + 1 := by rw [hcs2]; simp; omega
          clear hcs2
          have hbx3 := Hbx.out.size
          refine (Tryz.strconv_AppendInt_10 B cs2.length z (hz z (List.mem_of_getElem? Hza.out)).1 (hz z (List.mem_of_getElem? Hza.out)).2 _ (cs2.map V8) wx Hox.out (by omega) (by omega) (Htab.out.on Hbx.out)).mono ?_
          rintro en w9 ⟨v9, rfl, hown9, hb9, hoth9⟩
          rw [byteCells_digs, ← Tx.digs_length, ← List.map_append, ← List.length_append] at hown9
          have hg9 := hoth9 g _ Hgx.out (by intro h; cases h) (by intro c fz h; injection h with _ h; exact absurd h (by decide))
          have Hown9 := Lib.hid hown9; have Hg9 := Lib.hid hg9; have Hb9 := Lib.hid (Hbx.out.trans hb9)
          have hdl := Lib.itoa_length_le z (hz z (List.mem_of_getElem? Hza.out)).1 (hz z (List.mem_of_getElem? Hza.out)).2
          rw [← Tx.digs_length] at hdl
          clear hown9 hg9 hb9 hoth9
          go_wp2_with fail
          go_roundw
          case rel =>
            refine ⟨a + 1, cs2 ++ Tx.digs z, by congr 1, Hown9.out, Hb9.out, Hg9.out, by omega, by rw [List.length_append]; omega, ?_⟩
            rw [Hrow2.out, Hsep.out]
          case measure => simp [intOf]; omega
    · have hae : a = k := by omega
      subst hae
      have Hfin := Lib.hid (show Tx.rowF c0 zs = cs ++ [10#8] by rw [Hrow.out, List.drop_eq_nil_of_le (by rw [← Hk.out]; exact Nat.le_refl _)]; rfl)
      have hb9 : Below wr.heap.size wr (wr.alloc (.cells #[.int .u8 10] 5)) := (Below.refl _ _).alloc (Nat.le_refl _) _
      have Hox := Lib.hid (own_below Hor.out hb9 (Nat.le_refl _))
      have Hrd := Lib.hid (rd_new wr [.int .u8 10] #[.int .u8 10] 5 rfl)
      have Hb9 := Lib.hid (Hbr.out.trans (hb9.mono (by have := Hbr.out.size; omega)))
      have hsb : B ≤ (wr.alloc (.cells #[.int .u8 10] 5)).heap.size := by simp; omega
      clear hb9
      go_wp2_with (at_builtin; refine wpList_append_rd rfl _ _ 22 rfl B 5 i8 _ 1 descU8s H8.out h80 h81 h82 rfl _ cs.length (cs.map V8) rfl Hox.out _ (some ⟨wr.heap.size, 0, none⟩) 1 1 [.int .u8 10] rfl rfl (by intro h; cases h) Hrd.out (by intro u hu; simp at hu; subst hu; rfl) (by unfold maxLen; omega) (by omega) hsb ?_; intro v9 w9 hown9 hg9; have Hown9 := Lib.hid hown9; have Hgw9 := Lib.hid hg9; clear hown9 hg9)
      go_ret
      rw [Hc0.out, Hfin.out]
      refine ⟨_, rfl, ?_, Hb9.out.grown Hgw9.out hsb fun x hx => (Hox.out.lt x hx).1⟩
      rw [List.length_append, List.map_append]
      exact Hown9.out
end Go.Proofs.YtmeoafodcniliaaGreatDoor.C4
