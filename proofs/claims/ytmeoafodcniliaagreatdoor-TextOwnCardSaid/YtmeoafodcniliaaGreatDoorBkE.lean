/- lists of kinds that keep nothing -/
import Derived.Test.YtmeoafodcniliaaGreatDoorBkB
import Derived.Test.YtmeoafodcniliaaGreatDoorInts
import Derived.Deep.DeepCutAuto
import Derived.Deep.CutBlock
import Derived.BigQuiet
import Derived.Deep.RegionHeld3
import Derived.Deep.RegionLaw
import Derived.Test.YtmeoafodcniliaaGreatDoorBkR
namespace Go.Proofs.YtmeoafodcniliaaGreatDoor
open Go.RowKit
set_option linter.unusedSimpArgs false
set_option linter.unusedVariables false
namespace Bk
theorem empty0 : KindOK 0 (fun vs => vs = []) where
  untouched := by
    rintro kb b p vs ws hv hw U w rfl hb hk - - -
    obtain ⟨A, C, rfl, _, _⟩ := own_hdr hk.hvs.2
    have hcv := hk.hvs.1
    clear hk hb
    show Calls Tryz.prog 106 _ _ _
    go_enter Tryz.func106, Tryz.ntmps106
    go_wp2_with fail
    go_loopw [3] (fun iv wr => iv = .int .i64 0 ∧ wr = w) (fun _ _ => 0)
    case atStart => exact ⟨rfl, rfl⟩
    case round =>
      obtain ⟨rfl, rfl⟩ := hrel
      go_wp2_with fail
      go_ret
      exact ⟨rfl, Below.refl _ _⟩
  write := by
    rintro kb b p id vs gs hv hg w rfl hb hk hr ha hN h0 h1
    obtain ⟨A, C, rfl, _, _⟩ := own_hdr hk.ov
    have hcv := hk.cv
    have Hr := Lib.hid hr
    clear hk hb hr ha hN
    show Calls Tryz.prog 123 _ _ _
    go_enter Tryz.func123, Tryz.ntmps123
    go_wp2_with fail
    go_loopw [1, 5] (fun idv iv wr => idv = .int .i64 id ∧ iv = .int .i64 0 ∧ wr = w) (fun _ _ _ => 0)
    case atStart => exact ⟨rfl, rfl, rfl⟩
    case round =>
      obtain ⟨rfl, rfl, rfl⟩ := hrel
      go_wp2_with fail
      go_ret
      exact ⟨by simp, Kept.refl _ _, fun i v hv => by simp at hv⟩
  hold := by
    rintro kb b p id vs gs hv hg w rfl hb hk hs hsg hN h0 h1
    obtain ⟨A, C, rfl, _, _⟩ := own_hdr hk.ov
    have hcv := hk.cv
    clear hk hb hs hsg hN
    show Calls Tryz.prog 140 _ _ _
    go_enter Tryz.func140, Tryz.ntmps140
    go_wp2_with fail
    go_loopw [1, 6, 7] (fun idv av iv wr => idv = .int .i64 id ∧ av = .bool true ∧ iv = .int .i64 0 ∧ wr = w) (fun _ _ _ _ => 0)
    case atStart => exact ⟨rfl, rfl, rfl, rfl⟩
    case round =>
      obtain ⟨rfl, rfl, rfl, rfl⟩ := hrel
      go_wp2_with fail
      go_ret2
      exact ⟨by simp, Below.refl _ _⟩
  grow := by
    rintro kb t b p id vs gs hv hg w rfl ht hb hk hgl hgr hap hN h0 h1
    obtain ⟨A, C, rfl, _, _⟩ := own_hdr hk.ov
    have Hst := Lib.hid (GrowInv.start hb hk hgl hgr hap)
    have hcv := hk.cv
    clear hk hb hgl hgr hap hN
    show Calls Tryz.prog 157 _ _ _
    go_enter Tryz.func157, Tryz.ntmps157
    go_wp2_with fail
    go_loopw [1, 7] (fun idv iv wr => idv = .int .i64 id ∧ iv = .int .i64 0 ∧ wr = w) (fun _ _ _ => 0)
    case atStart => exact ⟨rfl, rfl, rfl⟩
    case round =>
      obtain ⟨rfl, rfl, rfl⟩ := hrel
      go_wp2_with fail
      go_ret
      exact ⟨by simp, _, _, by have := Hst.out; rw [show laidN t 0 ([] : List Value).length = ([] : List Value).length by unfold laidN; split <;> rfl] at this; exact this⟩
theorem empty1 : KindOK 1 (fun vs => vs = []) where
  untouched := by
    rintro kb b p vs ws hv hw U w rfl hb hk - - -
    obtain ⟨A, C, rfl, _, _⟩ := own_hdr hk.hvs.2
    have hcv := hk.hvs.1
    clear hk hb
    show Calls Tryz.prog 107 _ _ _
    go_enter Tryz.func107, Tryz.ntmps107
    go_wp2_with fail
    go_loopw [3] (fun iv wr => iv = .int .i64 0 ∧ wr = w) (fun _ _ => 0)
    case atStart => exact ⟨rfl, rfl⟩
    case round =>
      obtain ⟨rfl, rfl⟩ := hrel
      go_wp2_with fail
      go_ret
      exact ⟨rfl, Below.refl _ _⟩
  write := by
    rintro kb b p id vs gs hv hg w rfl hb hk hr ha hN h0 h1
    obtain ⟨A, C, rfl, _, _⟩ := own_hdr hk.ov
    have hcv := hk.cv
    have Hr := Lib.hid hr
    clear hk hb hr ha hN
    show Calls Tryz.prog 124 _ _ _
    go_enter Tryz.func124, Tryz.ntmps124
    go_wp2_with fail
    go_loopw [1, 5] (fun idv iv wr => idv = .int .i64 id ∧ iv = .int .i64 0 ∧ wr = w) (fun _ _ _ => 0)
    case atStart => exact ⟨rfl, rfl, rfl⟩
    case round =>
      obtain ⟨rfl, rfl, rfl⟩ := hrel
      go_wp2_with fail
      go_ret
      exact ⟨by simp, Kept.refl _ _, fun i v hv => by simp at hv⟩
  hold := by
    rintro kb b p id vs gs hv hg w rfl hb hk hs hsg hN h0 h1
    obtain ⟨A, C, rfl, _, _⟩ := own_hdr hk.ov
    have hcv := hk.cv
    clear hk hb hs hsg hN
    show Calls Tryz.prog 141 _ _ _
    go_enter Tryz.func141, Tryz.ntmps141
    go_wp2_with fail
    go_loopw [1, 6, 7] (fun idv av iv wr => idv = .int .i64 id ∧ av = .bool true ∧ iv = .int .i64 0 ∧ wr = w) (fun _ _ _ _ => 0)
    case atStart => exact ⟨rfl, rfl, rfl, rfl⟩
    case round =>
      obtain ⟨rfl, rfl, rfl, rfl⟩ := hrel
      go_wp2_with fail
      go_ret2
      exact ⟨by simp, Below.refl _ _⟩
  grow := by
    rintro kb t b p id vs gs hv hg w rfl ht hb hk hgl hgr hap hN h0 h1
    obtain ⟨A, C, rfl, _, _⟩ := own_hdr hk.ov
    have Hst := Lib.hid (GrowInv.start hb hk hgl hgr hap)
    have hcv := hk.cv
    clear hk hb hgl hgr hap hN
    show Calls Tryz.prog 158 _ _ _
    go_enter Tryz.func158, Tryz.ntmps158
    go_wp2_with fail
    go_loopw [1, 7] (fun idv iv wr => idv = .int .i64 id ∧ iv = .int .i64 0 ∧ wr = w) (fun _ _ _ => 0)
    case atStart => exact ⟨rfl, rfl, rfl⟩
    case round =>
      obtain ⟨rfl, rfl, rfl⟩ := hrel
      go_wp2_with fail
      go_ret
      exact ⟨by simp, _, _, by have := Hst.out; rw [show laidN t 0 ([] : List Value).length = ([] : List Value).length by unfold laidN; split <;> rfl] at this; exact this⟩
theorem empty2 : KindOK 2 (fun vs => vs = []) where
  untouched := by
    rintro kb b p vs ws hv hw U w rfl hb hk - - -
    obtain ⟨A, C, rfl, _, _⟩ := own_hdr hk.hvs.2
    have hcv := hk.hvs.1
    clear hk hb
    show Calls Tryz.prog 108 _ _ _
    go_enter Tryz.func108, Tryz.ntmps108
    go_wp2_with fail
    go_loopw [3] (fun iv wr => iv = .int .i64 0 ∧ wr = w) (fun _ _ => 0)
    case atStart => exact ⟨rfl, rfl⟩
    case round =>
      obtain ⟨rfl, rfl⟩ := hrel
      go_wp2_with fail
      go_ret
      exact ⟨rfl, Below.refl _ _⟩
  write := by
    rintro kb b p id vs gs hv hg w rfl hb hk hr ha hN h0 h1
    obtain ⟨A, C, rfl, _, _⟩ := own_hdr hk.ov
    have hcv := hk.cv
    have Hr := Lib.hid hr
    clear hk hb hr ha hN
    show Calls Tryz.prog 125 _ _ _
    go_enter Tryz.func125, Tryz.ntmps125
    go_wp2_with fail
    go_loopw [1, 5] (fun idv iv wr => idv = .int .i64 id ∧ iv = .int .i64 0 ∧ wr = w) (fun _ _ _ => 0)
    case atStart => exact ⟨rfl, rfl, rfl⟩
    case round =>
      obtain ⟨rfl, rfl, rfl⟩ := hrel
      go_wp2_with fail
      go_ret
      exact ⟨by simp, Kept.refl _ _, fun i v hv => by simp at hv⟩
  hold := by
    rintro kb b p id vs gs hv hg w rfl hb hk hs hsg hN h0 h1
    obtain ⟨A, C, rfl, _, _⟩ := own_hdr hk.ov
    have hcv := hk.cv
    clear hk hb hs hsg hN
    show Calls Tryz.prog 142 _ _ _
    go_enter Tryz.func142, Tryz.ntmps142
    go_wp2_with fail
    go_loopw [1, 6, 7] (fun idv av iv wr => idv = .int .i64 id ∧ av = .bool true ∧ iv = .int .i64 0 ∧ wr = w) (fun _ _ _ _ => 0)
    case atStart => exact ⟨rfl, rfl, rfl, rfl⟩
    case round =>
      obtain ⟨rfl, rfl, rfl, rfl⟩ := hrel
      go_wp2_with fail
      go_ret2
      exact ⟨by simp, Below.refl _ _⟩
  grow := by
    rintro kb t b p id vs gs hv hg w rfl ht hb hk hgl hgr hap hN h0 h1
    obtain ⟨A, C, rfl, _, _⟩ := own_hdr hk.ov
    have Hst := Lib.hid (GrowInv.start hb hk hgl hgr hap)
    have hcv := hk.cv
    clear hk hb hgl hgr hap hN
    show Calls Tryz.prog 159 _ _ _
    go_enter Tryz.func159, Tryz.ntmps159
    go_wp2_with fail
    go_loopw [1, 7] (fun idv iv wr => idv = .int .i64 id ∧ iv = .int .i64 0 ∧ wr = w) (fun _ _ _ => 0)
    case atStart => exact ⟨rfl, rfl, rfl⟩
    case round =>
      obtain ⟨rfl, rfl, rfl⟩ := hrel
      go_wp2_with fail
      go_ret
      exact ⟨by simp, _, _, by have := Hst.out; rw [show laidN t 0 ([] : List Value).length = ([] : List Value).length by unfold laidN; split <;> rfl] at this; exact this⟩
theorem empty3 : KindOK 3 (fun vs => vs = []) where
  untouched := by
    rintro kb b p vs ws hv hw U w rfl hb hk - - -
    obtain ⟨A, C, rfl, _, _⟩ := own_hdr hk.hvs.2
    have hcv := hk.hvs.1
    clear hk hb
    show Calls Tryz.prog 109 _ _ _
    go_enter Tryz.func109, Tryz.ntmps109
    go_wp2_with fail
    go_loopw [3] (fun iv wr => iv = .int .i64 0 ∧ wr = w) (fun _ _ => 0)
    case atStart => exact ⟨rfl, rfl⟩
    case round =>
      obtain ⟨rfl, rfl⟩ := hrel
      go_wp2_with fail
      go_ret
      exact ⟨rfl, Below.refl _ _⟩
  write := by
    rintro kb b p id vs gs hv hg w rfl hb hk hr ha hN h0 h1
    obtain ⟨A, C, rfl, _, _⟩ := own_hdr hk.ov
    have hcv := hk.cv
    have Hr := Lib.hid hr
    clear hk hb hr ha hN
    show Calls Tryz.prog 126 _ _ _
    go_enter Tryz.func126, Tryz.ntmps126
    go_wp2_with fail
    go_loopw [1, 5] (fun idv iv wr => idv = .int .i64 id ∧ iv = .int .i64 0 ∧ wr = w) (fun _ _ _ => 0)
    case atStart => exact ⟨rfl, rfl, rfl⟩
    case round =>
      obtain ⟨rfl, rfl, rfl⟩ := hrel
      go_wp2_with fail
      go_ret
      exact ⟨by simp, Kept.refl _ _, fun i v hv => by simp at hv⟩
  hold := by
    rintro kb b p id vs gs hv hg w rfl hb hk hs hsg hN h0 h1
    obtain ⟨A, C, rfl, _, _⟩ := own_hdr hk.ov
    have hcv := hk.cv
    clear hk hb hs hsg hN
    show Calls Tryz.prog 143 _ _ _
    go_enter Tryz.func143, Tryz.ntmps143
    go_wp2_with fail
    go_loopw [1, 6, 7] (fun idv av iv wr => idv = .int .i64 id ∧ av = .bool true ∧ iv = .int .i64 0 ∧ wr = w) (fun _ _ _ _ => 0)
    case atStart => exact ⟨rfl, rfl, rfl, rfl⟩
    case round =>
      obtain ⟨rfl, rfl, rfl, rfl⟩ := hrel
      go_wp2_with fail
      go_ret2
      exact ⟨by simp, Below.refl _ _⟩
  grow := by
    rintro kb t b p id vs gs hv hg w rfl ht hb hk hgl hgr hap hN h0 h1
    obtain ⟨A, C, rfl, _, _⟩ := own_hdr hk.ov
    have Hst := Lib.hid (GrowInv.start hb hk hgl hgr hap)
    have hcv := hk.cv
    clear hk hb hgl hgr hap hN
    show Calls Tryz.prog 160 _ _ _
    go_enter Tryz.func160, Tryz.ntmps160
    go_wp2_with fail
    go_loopw [1, 7] (fun idv iv wr => idv = .int .i64 id ∧ iv = .int .i64 0 ∧ wr = w) (fun _ _ _ => 0)
    case atStart => exact ⟨rfl, rfl, rfl⟩
    case round =>
      obtain ⟨rfl, rfl, rfl⟩ := hrel
      go_wp2_with fail
      go_ret
      exact ⟨by simp, _, _, by have := Hst.out; rw [show laidN t 0 ([] : List Value).length = ([] : List Value).length by unfold laidN; split <;> rfl] at this; exact this⟩
theorem empty4 : KindOK 4 (fun vs => vs = []) where
  untouched := by
    rintro kb b p vs ws hv hw U w rfl hb hk - - -
    obtain ⟨A, C, rfl, _, _⟩ := own_hdr hk.hvs.2
    have hcv := hk.hvs.1
    clear hk hb
    show Calls Tryz.prog 110 _ _ _
    go_enter Tryz.func110, Tryz.ntmps110
    go_wp2_with fail
    go_loopw [3] (fun iv wr => iv = .int .i64 0 ∧ wr = w) (fun _ _ => 0)
    case atStart => exact ⟨rfl, rfl⟩
    case round =>
      obtain ⟨rfl, rfl⟩ := hrel
      go_wp2_with fail
      go_ret
      exact ⟨rfl, Below.refl _ _⟩
  write := by
    rintro kb b p id vs gs hv hg w rfl hb hk hr ha hN h0 h1
    obtain ⟨A, C, rfl, _, _⟩ := own_hdr hk.ov
    have hcv := hk.cv
    have Hr := Lib.hid hr
    clear hk hb hr ha hN
    show Calls Tryz.prog 127 _ _ _
    go_enter Tryz.func127, Tryz.ntmps127
    go_wp2_with fail
    go_loopw [1, 5] (fun idv iv wr => idv = .int .i64 id ∧ iv = .int .i64 0 ∧ wr = w) (fun _ _ _ => 0)
    case atStart => exact ⟨rfl, rfl, rfl⟩
    case round =>
      obtain ⟨rfl, rfl, rfl⟩ := hrel
      go_wp2_with fail
      go_ret
      exact ⟨by simp, Kept.refl _ _, fun i v hv => by simp at hv⟩
  hold := by
    rintro kb b p id vs gs hv hg w rfl hb hk hs hsg hN h0 h1
    obtain ⟨A, C, rfl, _, _⟩ := own_hdr hk.ov
    have hcv := hk.cv
    clear hk hb hs hsg hN
    show Calls Tryz.prog 144 _ _ _
    go_enter Tryz.func144, Tryz.ntmps144
    go_wp2_with fail
    go_loopw [1, 6, 7] (fun idv av iv wr => idv = .int .i64 id ∧ av = .bool true ∧ iv = .int .i64 0 ∧ wr = w) (fun _ _ _ _ => 0)
    case atStart => exact ⟨rfl, rfl, rfl, rfl⟩
    case round =>
      obtain ⟨rfl, rfl, rfl, rfl⟩ := hrel
      go_wp2_with fail
      go_ret2
      exact ⟨by simp, Below.refl _ _⟩
  grow := by
    rintro kb t b p id vs gs hv hg w rfl ht hb hk hgl hgr hap hN h0 h1
    obtain ⟨A, C, rfl, _, _⟩ := own_hdr hk.ov
    have Hst := Lib.hid (GrowInv.start hb hk hgl hgr hap)
    have hcv := hk.cv
    clear hk hb hgl hgr hap hN
    show Calls Tryz.prog 161 _ _ _
    go_enter Tryz.func161, Tryz.ntmps161
    go_wp2_with fail
    go_loopw [1, 7] (fun idv iv wr => idv = .int .i64 id ∧ iv = .int .i64 0 ∧ wr = w) (fun _ _ _ => 0)
    case atStart => exact ⟨rfl, rfl, rfl⟩
    case round =>
      obtain ⟨rfl, rfl, rfl⟩ := hrel
      go_wp2_with fail
      go_ret
      exact ⟨by simp, _, _, by have := Hst.out; rw [show laidN t 0 ([] : List Value).length = ([] : List Value).length by unfold laidN; split <;> rfl] at this; exact this⟩
theorem empty5 : KindOK 5 (fun vs => vs = []) where
  untouched := by
    rintro kb b p vs ws hv hw U w rfl hb hk - - -
    obtain ⟨A, C, rfl, _, _⟩ := own_hdr hk.hvs.2
    have hcv := hk.hvs.1
    clear hk hb
    show Calls Tryz.prog 111 _ _ _
    go_enter Tryz.func111, Tryz.ntmps111
    go_wp2_with fail
    go_loopw [3] (fun iv wr => iv = .int .i64 0 ∧ wr = w) (fun _ _ => 0)
    case atStart => exact ⟨rfl, rfl⟩
    case round =>
      obtain ⟨rfl, rfl⟩ := hrel
      go_wp2_with fail
      go_ret
      exact ⟨rfl, Below.refl _ _⟩
  write := by
    rintro kb b p id vs gs hv hg w rfl hb hk hr ha hN h0 h1
    obtain ⟨A, C, rfl, _, _⟩ := own_hdr hk.ov
    have hcv := hk.cv
    have Hr := Lib.hid hr
    clear hk hb hr ha hN
    show Calls Tryz.prog 128 _ _ _
    go_enter Tryz.func128, Tryz.ntmps128
    go_wp2_with fail
    go_loopw [1, 5] (fun idv iv wr => idv = .int .i64 id ∧ iv = .int .i64 0 ∧ wr = w) (fun _ _ _ => 0)
    case atStart => exact ⟨rfl, rfl, rfl⟩
    case round =>
      obtain ⟨rfl, rfl, rfl⟩ := hrel
      go_wp2_with fail
      go_ret
      exact ⟨by simp, Kept.refl _ _, fun i v hv => by simp at hv⟩
  hold := by
    rintro kb b p id vs gs hv hg w rfl hb hk hs hsg hN h0 h1
    obtain ⟨A, C, rfl, _, _⟩ := own_hdr hk.ov
    have hcv := hk.cv
    clear hk hb hs hsg hN
    show Calls Tryz.prog 145 _ _ _
    go_enter Tryz.func145, Tryz.ntmps145
    go_wp2_with fail
    go_loopw [1, 6, 7] (fun idv av iv wr => idv = .int .i64 id ∧ av = .bool true ∧ iv = .int .i64 0 ∧ wr = w) (fun _ _ _ _ => 0)
    case atStart => exact ⟨rfl, rfl, rfl, rfl⟩
    case round =>
      obtain ⟨rfl, rfl, rfl, rfl⟩ := hrel
      go_wp2_with fail
      go_ret2
      exact ⟨by simp, Below.refl _ _⟩
  grow := by
    rintro kb t b p id vs gs hv hg w rfl ht hb hk hgl hgr hap hN h0 h1
    obtain ⟨A, C, rfl, _, _⟩ := own_hdr hk.ov
    have Hst := Lib.hid (GrowInv.start hb hk hgl hgr hap)
    have hcv := hk.cv
    clear hk hb hgl hgr hap hN
    show Calls Tryz.prog 162 _ _ _
    go_enter Tryz.func162, Tryz.ntmps162
    go_wp2_with fail
    go_loopw [1, 7] (fun idv iv wr => idv = .int .i64 id ∧ iv = .int .i64 0 ∧ wr = w) (fun _ _ _ => 0)
    case atStart => exact ⟨rfl, rfl, rfl⟩
    case round =>
      obtain ⟨rfl, rfl, rfl⟩ := hrel
      go_wp2_with fail
      go_ret
      exact ⟨by simp, _, _, by have := Hst.out; rw [show laidN t 0 ([] : List Value).length = ([] : List Value).length by unfold laidN; split <;> rfl] at this; exact this⟩
theorem empty6 : KindOK 6 (fun vs => vs = []) where
  untouched := by
    rintro kb b p vs ws hv hw U w rfl hb hk - - -
    obtain ⟨A, C, rfl, _, _⟩ := own_hdr hk.hvs.2
    have hcv := hk.hvs.1
    clear hk hb
    show Calls Tryz.prog 112 _ _ _
    go_enter Tryz.func112, Tryz.ntmps112
    go_wp2_with fail
    go_loopw [3] (fun iv wr => iv = .int .i64 0 ∧ wr = w) (fun _ _ => 0)
    case atStart => exact ⟨rfl, rfl⟩
    case round =>
      obtain ⟨rfl, rfl⟩ := hrel
      go_wp2_with fail
      go_ret
      exact ⟨rfl, Below.refl _ _⟩
  write := by
    rintro kb b p id vs gs hv hg w rfl hb hk hr ha hN h0 h1
    obtain ⟨A, C, rfl, _, _⟩ := own_hdr hk.ov
    have hcv := hk.cv
    have Hr := Lib.hid hr
    clear hk hb hr ha hN
    show Calls Tryz.prog 129 _ _ _
    go_enter Tryz.func129, Tryz.ntmps129
    go_wp2_with fail
    go_loopw [1, 5] (fun idv iv wr => idv = .int .i64 id ∧ iv = .int .i64 0 ∧ wr = w) (fun _ _ _ => 0)
    case atStart => exact ⟨rfl, rfl, rfl⟩
    case round =>
      obtain ⟨rfl, rfl, rfl⟩ := hrel
      go_wp2_with fail
      go_ret
      exact ⟨by simp, Kept.refl _ _, fun i v hv => by simp at hv⟩
  hold := by
    rintro kb b p id vs gs hv hg w rfl hb hk hs hsg hN h0 h1
    obtain ⟨A, C, rfl, _, _⟩ := own_hdr hk.ov
    have hcv := hk.cv
    clear hk hb hs hsg hN
    show Calls Tryz.prog 146 _ _ _
    go_enter Tryz.func146, Tryz.ntmps146
    go_wp2_with fail
    go_loopw [1, 6, 7] (fun idv av iv wr => idv = .int .i64 id ∧ av = .bool true ∧ iv = .int .i64 0 ∧ wr = w) (fun _ _ _ _ => 0)
    case atStart => exact ⟨rfl, rfl, rfl, rfl⟩
    case round =>
      obtain ⟨rfl, rfl, rfl, rfl⟩ := hrel
      go_wp2_with fail
      go_ret2
      exact ⟨by simp, Below.refl _ _⟩
  grow := by
    rintro kb t b p id vs gs hv hg w rfl ht hb hk hgl hgr hap hN h0 h1
    obtain ⟨A, C, rfl, _, _⟩ := own_hdr hk.ov
    have Hst := Lib.hid (GrowInv.start hb hk hgl hgr hap)
    have hcv := hk.cv
    clear hk hb hgl hgr hap hN
    show Calls Tryz.prog 163 _ _ _
    go_enter Tryz.func163, Tryz.ntmps163
    go_wp2_with fail
    go_loopw [1, 7] (fun idv iv wr => idv = .int .i64 id ∧ iv = .int .i64 0 ∧ wr = w) (fun _ _ _ => 0)
    case atStart => exact ⟨rfl, rfl, rfl⟩
    case round =>
      obtain ⟨rfl, rfl, rfl⟩ := hrel
      go_wp2_with fail
      go_ret
      exact ⟨by simp, _, _, by have := Hst.out; rw [show laidN t 0 ([] : List Value).length = ([] : List Value).length by unfold laidN; split <;> rfl] at this; exact this⟩
theorem empty7 : KindOK 7 (fun vs => vs = []) where
  untouched := by
    rintro kb b p vs ws hv hw U w rfl hb hk - - -
    obtain ⟨A, C, rfl, _, _⟩ := own_hdr hk.hvs.2
    have hcv := hk.hvs.1
    clear hk hb
    show Calls Tryz.prog 113 _ _ _
    go_enter Tryz.func113, Tryz.ntmps113
    go_wp2_with fail
    go_loopw [3] (fun iv wr => iv = .int .i64 0 ∧ wr = w) (fun _ _ => 0)
    case atStart => exact ⟨rfl, rfl⟩
    case round =>
      obtain ⟨rfl, rfl⟩ := hrel
      go_wp2_with fail
      go_ret
      exact ⟨rfl, Below.refl _ _⟩
  write := by
    rintro kb b p id vs gs hv hg w rfl hb hk hr ha hN h0 h1
    obtain ⟨A, C, rfl, _, _⟩ := own_hdr hk.ov
    have hcv := hk.cv
    have Hr := Lib.hid hr
    clear hk hb hr ha hN
    show Calls Tryz.prog 130 _ _ _
    go_enter Tryz.func130, Tryz.ntmps130
    go_wp2_with fail
    go_loopw [1, 5] (fun idv iv wr => idv = .int .i64 id ∧ iv = .int .i64 0 ∧ wr = w) (fun _ _ _ => 0)
    case atStart => exact ⟨rfl, rfl, rfl⟩
    case round =>
      obtain ⟨rfl, rfl, rfl⟩ := hrel
      go_wp2_with fail
      go_ret
      exact ⟨by simp, Kept.refl _ _, fun i v hv => by simp at hv⟩
  hold := by
    rintro kb b p id vs gs hv hg w rfl hb hk hs hsg hN h0 h1
    obtain ⟨A, C, rfl, _, _⟩ := own_hdr hk.ov
    have hcv := hk.cv
    clear hk hb hs hsg hN
    show Calls Tryz.prog 147 _ _ _
    go_enter Tryz.func147, Tryz.ntmps147
    go_wp2_with fail
    go_loopw [1, 6, 7] (fun idv av iv wr => idv = .int .i64 id ∧ av = .bool true ∧ iv = .int .i64 0 ∧ wr = w) (fun _ _ _ _ => 0)
    case atStart => exact ⟨rfl, rfl, rfl, rfl⟩
    case round =>
      obtain ⟨rfl, rfl, rfl, rfl⟩ := hrel
      go_wp2_with fail
      go_ret2
      exact ⟨by simp, Below.refl _ _⟩
  grow := by
    rintro kb t b p id vs gs hv hg w rfl ht hb hk hgl hgr hap hN h0 h1
    obtain ⟨A, C, rfl, _, _⟩ := own_hdr hk.ov
    have Hst := Lib.hid (GrowInv.start hb hk hgl hgr hap)
    have hcv := hk.cv
    clear hk hb hgl hgr hap hN
    show Calls Tryz.prog 164 _ _ _
    go_enter Tryz.func164, Tryz.ntmps164
    go_wp2_with fail
    go_loopw [1, 7] (fun idv iv wr => idv = .int .i64 id ∧ iv = .int .i64 0 ∧ wr = w) (fun _ _ _ => 0)
    case atStart => exact ⟨rfl, rfl, rfl⟩
    case round =>
      obtain ⟨rfl, rfl, rfl⟩ := hrel
      go_wp2_with fail
      go_ret
      exact ⟨by simp, _, _, by have := Hst.out; rw [show laidN t 0 ([] : List Value).length = ([] : List Value).length by unfold laidN; split <;> rfl] at this; exact this⟩
theorem empty8 : KindOK 8 (fun vs => vs = []) where
  untouched := by
    rintro kb b p vs ws hv hw U w rfl hb hk - - -
    obtain ⟨A, C, rfl, _, _⟩ := own_hdr hk.hvs.2
    have hcv := hk.hvs.1
    clear hk hb
    show Calls Tryz.prog 114 _ _ _
    go_enter Tryz.func114, Tryz.ntmps114
    go_wp2_with fail
    go_loopw [3] (fun iv wr => iv = .int .i64 0 ∧ wr = w) (fun _ _ => 0)
    case atStart => exact ⟨rfl, rfl⟩
    case round =>
      obtain ⟨rfl, rfl⟩ := hrel
      go_wp2_with fail
      go_ret
      exact ⟨rfl, Below.refl _ _⟩
  write := by
    rintro kb b p id vs gs hv hg w rfl hb hk hr ha hN h0 h1
    obtain ⟨A, C, rfl, _, _⟩ := own_hdr hk.ov
    have hcv := hk.cv
    have Hr := Lib.hid hr
    clear hk hb hr ha hN
    show Calls Tryz.prog 131 _ _ _
    go_enter Tryz.func131, Tryz.ntmps131
    go_wp2_with fail
    go_loopw [1, 5] (fun idv iv wr => idv = .int .i64 id ∧ iv = .int .i64 0 ∧ wr = w) (fun _ _ _ => 0)
    case atStart => exact ⟨rfl, rfl, rfl⟩
    case round =>
      obtain ⟨rfl, rfl, rfl⟩ := hrel
      go_wp2_with fail
      go_ret
      exact ⟨by simp, Kept.refl _ _, fun i v hv => by simp at hv⟩
  hold := by
    rintro kb b p id vs gs hv hg w rfl hb hk hs hsg hN h0 h1
    obtain ⟨A, C, rfl, _, _⟩ := own_hdr hk.ov
    have hcv := hk.cv
    clear hk hb hs hsg hN
    show Calls Tryz.prog 148 _ _ _
    go_enter Tryz.func148, Tryz.ntmps148
    go_wp2_with fail
    go_loopw [1, 6, 7] (fun idv av iv wr => idv = .int .i64 id ∧ av = .bool true ∧ iv = .int .i64 0 ∧ wr = w) (fun _ _ _ _ => 0)
    case atStart => exact ⟨rfl, rfl, rfl, rfl⟩
    case round =>
      obtain ⟨rfl, rfl, rfl, rfl⟩ := hrel
      go_wp2_with fail
      go_ret2
      exact ⟨by simp, Below.refl _ _⟩
  grow := by
    rintro kb t b p id vs gs hv hg w rfl ht hb hk hgl hgr hap hN h0 h1
    obtain ⟨A, C, rfl, _, _⟩ := own_hdr hk.ov
    have Hst := Lib.hid (GrowInv.start hb hk hgl hgr hap)
    have hcv := hk.cv
    clear hk hb hgl hgr hap hN
    show Calls Tryz.prog 165 _ _ _
    go_enter Tryz.func165, Tryz.ntmps165
    go_wp2_with fail
    go_loopw [1, 7] (fun idv iv wr => idv = .int .i64 id ∧ iv = .int .i64 0 ∧ wr = w) (fun _ _ _ => 0)
    case atStart => exact ⟨rfl, rfl, rfl⟩
    case round =>
      obtain ⟨rfl, rfl, rfl⟩ := hrel
      go_wp2_with fail
      go_ret
      exact ⟨by simp, _, _, by have := Hst.out; rw [show laidN t 0 ([] : List Value).length = ([] : List Value).length by unfold laidN; split <;> rfl] at this; exact this⟩
theorem empty9 : KindOK 9 (fun vs => vs = []) where
  untouched := by
    rintro kb b p vs ws hv hw U w rfl hb hk - - -
    obtain ⟨A, C, rfl, _, _⟩ := own_hdr hk.hvs.2
    have hcv := hk.hvs.1
    clear hk hb
    show Calls Tryz.prog 115 _ _ _
    go_enter Tryz.func115, Tryz.ntmps115
    go_wp2_with fail
    go_loopw [3] (fun iv wr => iv = .int .i64 0 ∧ wr = w) (fun _ _ => 0)
    case atStart => exact ⟨rfl, rfl⟩
    case round =>
      obtain ⟨rfl, rfl⟩ := hrel
      go_wp2_with fail
      go_ret
      exact ⟨rfl, Below.refl _ _⟩
  write := by
    rintro kb b p id vs gs hv hg w rfl hb hk hr ha hN h0 h1
    obtain ⟨A, C, rfl, _, _⟩ := own_hdr hk.ov
    have hcv := hk.cv
    have Hr := Lib.hid hr
    clear hk hb hr ha hN
    show Calls Tryz.prog 132 _ _ _
    go_enter Tryz.func132, Tryz.ntmps132
    go_wp2_with fail
    go_loopw [1, 5] (fun idv iv wr => idv = .int .i64 id ∧ iv = .int .i64 0 ∧ wr = w) (fun _ _ _ => 0)
    case atStart => exact ⟨rfl, rfl, rfl⟩
    case round =>
      obtain ⟨rfl, rfl, rfl⟩ := hrel
      go_wp2_with fail
      go_ret
      exact ⟨by simp, Kept.refl _ _, fun i v hv => by simp at hv⟩
  hold := by
    rintro kb b p id vs gs hv hg w rfl hb hk hs hsg hN h0 h1
    obtain ⟨A, C, rfl, _, _⟩ := own_hdr hk.ov
    have hcv := hk.cv
    clear hk hb hs hsg hN
    show Calls Tryz.prog 149 _ _ _
    go_enter Tryz.func149, Tryz.ntmps149
    go_wp2_with fail
    go_loopw [1, 6, 7] (fun idv av iv wr => idv = .int .i64 id ∧ av = .bool true ∧ iv = .int .i64 0 ∧ wr = w) (fun _ _ _ _ => 0)
    case atStart => exact ⟨rfl, rfl, rfl, rfl⟩
    case round =>
      obtain ⟨rfl, rfl, rfl, rfl⟩ := hrel
      go_wp2_with fail
      go_ret2
      exact ⟨by simp, Below.refl _ _⟩
  grow := by
    rintro kb t b p id vs gs hv hg w rfl ht hb hk hgl hgr hap hN h0 h1
    obtain ⟨A, C, rfl, _, _⟩ := own_hdr hk.ov
    have Hst := Lib.hid (GrowInv.start hb hk hgl hgr hap)
    have hcv := hk.cv
    clear hk hb hgl hgr hap hN
    show Calls Tryz.prog 166 _ _ _
    go_enter Tryz.func166, Tryz.ntmps166
    go_wp2_with fail
    go_loopw [1, 7] (fun idv iv wr => idv = .int .i64 id ∧ iv = .int .i64 0 ∧ wr = w) (fun _ _ _ => 0)
    case atStart => exact ⟨rfl, rfl, rfl⟩
    case round =>
      obtain ⟨rfl, rfl, rfl⟩ := hrel
      go_wp2_with fail
      go_ret
      exact ⟨by simp, _, _, by have := Hst.out; rw [show laidN t 0 ([] : List Value).length = ([] : List Value).length by unfold laidN; split <;> rfl] at this; exact this⟩
theorem empty10 : KindOK 10 (fun vs => vs = []) where
  untouched := by
    rintro kb b p vs ws hv hw U w rfl hb hk - - -
    obtain ⟨A, C, rfl, _, _⟩ := own_hdr hk.hvs.2
    have hcv := hk.hvs.1
    clear hk hb
    show Calls Tryz.prog 116 _ _ _
    go_enter Tryz.func116, Tryz.ntmps116
    go_wp2_with fail
    go_loopw [3] (fun iv wr => iv = .int .i64 0 ∧ wr = w) (fun _ _ => 0)
    case atStart => exact ⟨rfl, rfl⟩
    case round =>
      obtain ⟨rfl, rfl⟩ := hrel
      go_wp2_with fail
      go_ret
      exact ⟨rfl, Below.refl _ _⟩
  write := by
    rintro kb b p id vs gs hv hg w rfl hb hk hr ha hN h0 h1
    obtain ⟨A, C, rfl, _, _⟩ := own_hdr hk.ov
    have hcv := hk.cv
    have Hr := Lib.hid hr
    clear hk hb hr ha hN
    show Calls Tryz.prog 133 _ _ _
    go_enter Tryz.func133, Tryz.ntmps133
    go_wp2_with fail
    go_loopw [1, 5] (fun idv iv wr => idv = .int .i64 id ∧ iv = .int .i64 0 ∧ wr = w) (fun _ _ _ => 0)
    case atStart => exact ⟨rfl, rfl, rfl⟩
    case round =>
      obtain ⟨rfl, rfl, rfl⟩ := hrel
      go_wp2_with fail
      go_ret
      exact ⟨by simp, Kept.refl _ _, fun i v hv => by simp at hv⟩
  hold := by
    rintro kb b p id vs gs hv hg w rfl hb hk hs hsg hN h0 h1
    obtain ⟨A, C, rfl, _, _⟩ := own_hdr hk.ov
    have hcv := hk.cv
    clear hk hb hs hsg hN
    show Calls Tryz.prog 150 _ _ _
    go_enter Tryz.func150, Tryz.ntmps150
    go_wp2_with fail
    go_loopw [1, 6, 7] (fun idv av iv wr => idv = .int .i64 id ∧ av = .bool true ∧ iv = .int .i64 0 ∧ wr = w) (fun _ _ _ _ => 0)
    case atStart => exact ⟨rfl, rfl, rfl, rfl⟩
    case round =>
      obtain ⟨rfl, rfl, rfl, rfl⟩ := hrel
      go_wp2_with fail
      go_ret2
      exact ⟨by simp, Below.refl _ _⟩
  grow := by
    rintro kb t b p id vs gs hv hg w rfl ht hb hk hgl hgr hap hN h0 h1
    obtain ⟨A, C, rfl, _, _⟩ := own_hdr hk.ov
    have Hst := Lib.hid (GrowInv.start hb hk hgl hgr hap)
    have hcv := hk.cv
    clear hk hb hgl hgr hap hN
    show Calls Tryz.prog 167 _ _ _
    go_enter Tryz.func167, Tryz.ntmps167
    go_wp2_with fail
    go_loopw [1, 7] (fun idv iv wr => idv = .int .i64 id ∧ iv = .int .i64 0 ∧ wr = w) (fun _ _ _ => 0)
    case atStart => exact ⟨rfl, rfl, rfl⟩
    case round =>
      obtain ⟨rfl, rfl, rfl⟩ := hrel
      go_wp2_with fail
      go_ret
      exact ⟨by simp, _, _, by have := Hst.out; rw [show laidN t 0 ([] : List Value).length = ([] : List Value).length by unfold laidN; split <;> rfl] at this; exact this⟩
theorem empty11 : KindOK 11 (fun vs => vs = []) where
  untouched := by
    rintro kb b p vs ws hv hw U w rfl hb hk - - -
    obtain ⟨A, C, rfl, _, _⟩ := own_hdr hk.hvs.2
    have hcv := hk.hvs.1
    clear hk hb
    show Calls Tryz.prog 117 _ _ _
    go_enter Tryz.func117, Tryz.ntmps117
    go_wp2_with fail
    go_loopw [3] (fun iv wr => iv = .int .i64 0 ∧ wr = w) (fun _ _ => 0)
    case atStart => exact ⟨rfl, rfl⟩
    case round =>
      obtain ⟨rfl, rfl⟩ := hrel
      go_wp2_with fail
      go_ret
      exact ⟨rfl, Below.refl _ _⟩
  write := by
    rintro kb b p id vs gs hv hg w rfl hb hk hr ha hN h0 h1
    obtain ⟨A, C, rfl, _, _⟩ := own_hdr hk.ov
    have hcv := hk.cv
    have Hr := Lib.hid hr
    clear hk hb hr ha hN
    show Calls Tryz.prog 134 _ _ _
    go_enter Tryz.func134, Tryz.ntmps134
    go_wp2_with fail
    go_loopw [1, 5] (fun idv iv wr => idv = .int .i64 id ∧ iv = .int .i64 0 ∧ wr = w) (fun _ _ _ => 0)
    case atStart => exact ⟨rfl, rfl, rfl⟩
    case round =>
      obtain ⟨rfl, rfl, rfl⟩ := hrel
      go_wp2_with fail
      go_ret
      exact ⟨by simp, Kept.refl _ _, fun i v hv => by simp at hv⟩
  hold := by
    rintro kb b p id vs gs hv hg w rfl hb hk hs hsg hN h0 h1
    obtain ⟨A, C, rfl, _, _⟩ := own_hdr hk.ov
    have hcv := hk.cv
    clear hk hb hs hsg hN
    show Calls Tryz.prog 151 _ _ _
    go_enter Tryz.func151, Tryz.ntmps151
    go_wp2_with fail
    go_loopw [1, 6, 7] (fun idv av iv wr => idv = .int .i64 id ∧ av = .bool true ∧ iv = .int .i64 0 ∧ wr = w) (fun _ _ _ _ => 0)
    case atStart => exact ⟨rfl, rfl, rfl, rfl⟩
    case round =>
      obtain ⟨rfl, rfl, rfl, rfl⟩ := hrel
      go_wp2_with fail
      go_ret2
      exact ⟨by simp, Below.refl _ _⟩
  grow := by
    rintro kb t b p id vs gs hv hg w rfl ht hb hk hgl hgr hap hN h0 h1
    obtain ⟨A, C, rfl, _, _⟩ := own_hdr hk.ov
    have Hst := Lib.hid (GrowInv.start hb hk hgl hgr hap)
    have hcv := hk.cv
    clear hk hb hgl hgr hap hN
    show Calls Tryz.prog 168 _ _ _
    go_enter Tryz.func168, Tryz.ntmps168
    go_wp2_with fail
    go_loopw [1, 7] (fun idv iv wr => idv = .int .i64 id ∧ iv = .int .i64 0 ∧ wr = w) (fun _ _ _ => 0)
    case atStart => exact ⟨rfl, rfl, rfl⟩
    case round =>
      obtain ⟨rfl, rfl, rfl⟩ := hrel
      go_wp2_with fail
      go_ret
      exact ⟨by simp, _, _, by have := Hst.out; rw [show laidN t 0 ([] : List Value).length = ([] : List Value).length by unfold laidN; split <;> rfl] at this; exact this⟩
theorem empty12 : KindOK 12 (fun vs => vs = []) where
  untouched := by
    rintro kb b p vs ws hv hw U w rfl hb hk - - -
    obtain ⟨A, C, rfl, _, _⟩ := own_hdr hk.hvs.2
    have hcv := hk.hvs.1
    clear hk hb
    show Calls Tryz.prog 118 _ _ _
    go_enter Tryz.func118, Tryz.ntmps118
    go_wp2_with fail
    go_loopw [3] (fun iv wr => iv = .int .i64 0 ∧ wr = w) (fun _ _ => 0)
    case atStart => exact ⟨rfl, rfl⟩
    case round =>
      obtain ⟨rfl, rfl⟩ := hrel
      go_wp2_with fail
      go_ret
      exact ⟨rfl, Below.refl _ _⟩
  write := by
    rintro kb b p id vs gs hv hg w rfl hb hk hr ha hN h0 h1
    obtain ⟨A, C, rfl, _, _⟩ := own_hdr hk.ov
    have hcv := hk.cv
    have Hr := Lib.hid hr
    clear hk hb hr ha hN
    show Calls Tryz.prog 135 _ _ _
    go_enter Tryz.func135, Tryz.ntmps135
    go_wp2_with fail
    go_loopw [1, 5] (fun idv iv wr => idv = .int .i64 id ∧ iv = .int .i64 0 ∧ wr = w) (fun _ _ _ => 0)
    case atStart => exact ⟨rfl, rfl, rfl⟩
    case round =>
      obtain ⟨rfl, rfl, rfl⟩ := hrel
      go_wp2_with fail
      go_ret
      exact ⟨by simp, Kept.refl _ _, fun i v hv => by simp at hv⟩
  hold := by
    rintro kb b p id vs gs hv hg w rfl hb hk hs hsg hN h0 h1
    obtain ⟨A, C, rfl, _, _⟩ := own_hdr hk.ov
    have hcv := hk.cv
    clear hk hb hs hsg hN
    show Calls Tryz.prog 152 _ _ _
    go_enter Tryz.func152, Tryz.ntmps152
    go_wp2_with fail
    go_loopw [1, 6, 7] (fun idv av iv wr => idv = .int .i64 id ∧ av = .bool true ∧ iv = .int .i64 0 ∧ wr = w) (fun _ _ _ _ => 0)
    case atStart => exact ⟨rfl, rfl, rfl, rfl⟩
    case round =>
      obtain ⟨rfl, rfl, rfl, rfl⟩ := hrel
      go_wp2_with fail
      go_ret2
      exact ⟨by simp, Below.refl _ _⟩
  grow := by
    rintro kb t b p id vs gs hv hg w rfl ht hb hk hgl hgr hap hN h0 h1
    obtain ⟨A, C, rfl, _, _⟩ := own_hdr hk.ov
    have Hst := Lib.hid (GrowInv.start hb hk hgl hgr hap)
    have hcv := hk.cv
    clear hk hb hgl hgr hap hN
    show Calls Tryz.prog 169 _ _ _
    go_enter Tryz.func169, Tryz.ntmps169
    go_wp2_with fail
    go_loopw [1, 7] (fun idv iv wr => idv = .int .i64 id ∧ iv = .int .i64 0 ∧ wr = w) (fun _ _ _ => 0)
    case atStart => exact ⟨rfl, rfl, rfl⟩
    case round =>
      obtain ⟨rfl, rfl, rfl⟩ := hrel
      go_wp2_with fail
      go_ret
      exact ⟨by simp, _, _, by have := Hst.out; rw [show laidN t 0 ([] : List Value).length = ([] : List Value).length by unfold laidN; split <;> rfl] at this; exact this⟩
theorem empty13 : KindOK 13 (fun vs => vs = []) where
  untouched := by
    rintro kb b p vs ws hv hw U w rfl hb hk - - -
    obtain ⟨A, C, rfl, _, _⟩ := own_hdr hk.hvs.2
    have hcv := hk.hvs.1
    clear hk hb
    show Calls Tryz.prog 119 _ _ _
    go_enter Tryz.func119, Tryz.ntmps119
    go_wp2_with fail
    go_loopw [3] (fun iv wr => iv = .int .i64 0 ∧ wr = w) (fun _ _ => 0)
    case atStart => exact ⟨rfl, rfl⟩
    case round =>
      obtain ⟨rfl, rfl⟩ := hrel
      go_wp2_with fail
      go_ret
      exact ⟨rfl, Below.refl _ _⟩
  write := by
    rintro kb b p id vs gs hv hg w rfl hb hk hr ha hN h0 h1
    obtain ⟨A, C, rfl, _, _⟩ := own_hdr hk.ov
    have hcv := hk.cv
    have Hr := Lib.hid hr
    clear hk hb hr ha hN
    show Calls Tryz.prog 136 _ _ _
    go_enter Tryz.func136, Tryz.ntmps136
    go_wp2_with fail
    go_loopw [1, 5] (fun idv iv wr => idv = .int .i64 id ∧ iv = .int .i64 0 ∧ wr = w) (fun _ _ _ => 0)
    case atStart => exact ⟨rfl, rfl, rfl⟩
    case round =>
      obtain ⟨rfl, rfl, rfl⟩ := hrel
      go_wp2_with fail
      go_ret
      exact ⟨by simp, Kept.refl _ _, fun i v hv => by simp at hv⟩
  hold := by
    rintro kb b p id vs gs hv hg w rfl hb hk hs hsg hN h0 h1
    obtain ⟨A, C, rfl, _, _⟩ := own_hdr hk.ov
    have hcv := hk.cv
    clear hk hb hs hsg hN
    show Calls Tryz.prog 153 _ _ _
    go_enter Tryz.func153, Tryz.ntmps153
    go_wp2_with fail
    go_loopw [1, 6, 7] (fun idv av iv wr => idv = .int .i64 id ∧ av = .bool true ∧ iv = .int .i64 0 ∧ wr = w) (fun _ _ _ _ => 0)
    case atStart => exact ⟨rfl, rfl, rfl, rfl⟩
    case round =>
      obtain ⟨rfl, rfl, rfl, rfl⟩ := hrel
      go_wp2_with fail
      go_ret2
      exact ⟨by simp, Below.refl _ _⟩
  grow := by
    rintro kb t b p id vs gs hv hg w rfl ht hb hk hgl hgr hap hN h0 h1
    obtain ⟨A, C, rfl, _, _⟩ := own_hdr hk.ov
    have Hst := Lib.hid (GrowInv.start hb hk hgl hgr hap)
    have hcv := hk.cv
    clear hk hb hgl hgr hap hN
    show Calls Tryz.prog 170 _ _ _
    go_enter Tryz.func170, Tryz.ntmps170
    go_wp2_with fail
    go_loopw [1, 7] (fun idv iv wr => idv = .int .i64 id ∧ iv = .int .i64 0 ∧ wr = w) (fun _ _ _ => 0)
    case atStart => exact ⟨rfl, rfl, rfl⟩
    case round =>
      obtain ⟨rfl, rfl, rfl⟩ := hrel
      go_wp2_with fail
      go_ret
      exact ⟨by simp, _, _, by have := Hst.out; rw [show laidN t 0 ([] : List Value).length = ([] : List Value).length by unfold laidN; split <;> rfl] at this; exact this⟩
theorem empty14 : KindOK 14 (fun vs => vs = []) where
  untouched := by
    rintro kb b p vs ws hv hw U w rfl hb hk - - -
    obtain ⟨A, C, rfl, _, _⟩ := own_hdr hk.hvs.2
    have hcv := hk.hvs.1
    clear hk hb
    show Calls Tryz.prog 120 _ _ _
    go_enter Tryz.func120, Tryz.ntmps120
    go_wp2_with fail
    go_loopw [3] (fun iv wr => iv = .int .i64 0 ∧ wr = w) (fun _ _ => 0)
    case atStart => exact ⟨rfl, rfl⟩
    case round =>
      obtain ⟨rfl, rfl⟩ := hrel
      go_wp2_with fail
      go_ret
      exact ⟨rfl, Below.refl _ _⟩
  write := by
    rintro kb b p id vs gs hv hg w rfl hb hk hr ha hN h0 h1
    obtain ⟨A, C, rfl, _, _⟩ := own_hdr hk.ov
    have hcv := hk.cv
    have Hr := Lib.hid hr
    clear hk hb hr ha hN
    show Calls Tryz.prog 137 _ _ _
    go_enter Tryz.func137, Tryz.ntmps137
    go_wp2_with fail
    go_loopw [1, 5] (fun idv iv wr => idv = .int .i64 id ∧ iv = .int .i64 0 ∧ wr = w) (fun _ _ _ => 0)
    case atStart => exact ⟨rfl, rfl, rfl⟩
    case round =>
      obtain ⟨rfl, rfl, rfl⟩ := hrel
      go_wp2_with fail
      go_ret
      exact ⟨by simp, Kept.refl _ _, fun i v hv => by simp at hv⟩
  hold := by
    rintro kb b p id vs gs hv hg w rfl hb hk hs hsg hN h0 h1
    obtain ⟨A, C, rfl, _, _⟩ := own_hdr hk.ov
    have hcv := hk.cv
    clear hk hb hs hsg hN
    show Calls Tryz.prog 154 _ _ _
    go_enter Tryz.func154, Tryz.ntmps154
    go_wp2_with fail
    go_loopw [1, 6, 7] (fun idv av iv wr => idv = .int .i64 id ∧ av = .bool true ∧ iv = .int .i64 0 ∧ wr = w) (fun _ _ _ _ => 0)
    case atStart => exact ⟨rfl, rfl, rfl, rfl⟩
    case round =>
      obtain ⟨rfl, rfl, rfl, rfl⟩ := hrel
      go_wp2_with fail
      go_ret2
      exact ⟨by simp, Below.refl _ _⟩
  grow := by
    rintro kb t b p id vs gs hv hg w rfl ht hb hk hgl hgr hap hN h0 h1
    obtain ⟨A, C, rfl, _, _⟩ := own_hdr hk.ov
    have Hst := Lib.hid (GrowInv.start hb hk hgl hgr hap)
    have hcv := hk.cv
    clear hk hb hgl hgr hap hN
    show Calls Tryz.prog 171 _ _ _
    go_enter Tryz.func171, Tryz.ntmps171
    go_wp2_with fail
    go_loopw [1, 7] (fun idv iv wr => idv = .int .i64 id ∧ iv = .int .i64 0 ∧ wr = w) (fun _ _ _ => 0)
    case atStart => exact ⟨rfl, rfl, rfl⟩
    case round =>
      obtain ⟨rfl, rfl, rfl⟩ := hrel
      go_wp2_with fail
      go_ret
      exact ⟨by simp, _, _, by have := Hst.out; rw [show laidN t 0 ([] : List Value).length = ([] : List Value).length by unfold laidN; split <;> rfl] at this; exact this⟩
theorem empty15 : KindOK 15 (fun vs => vs = []) where
  untouched := by
    rintro kb b p vs ws hv hw U w rfl hb hk - - -
    obtain ⟨A, C, rfl, _, _⟩ := own_hdr hk.hvs.2
    have hcv := hk.hvs.1
    clear hk hb
    show Calls Tryz.prog 121 _ _ _
    go_enter Tryz.func121, Tryz.ntmps121
    go_wp2_with fail
    go_loopw [3] (fun iv wr => iv = .int .i64 0 ∧ wr = w) (fun _ _ => 0)
    case atStart => exact ⟨rfl, rfl⟩
    case round =>
      obtain ⟨rfl, rfl⟩ := hrel
      go_wp2_with fail
      go_ret
      exact ⟨rfl, Below.refl _ _⟩
  write := by
    rintro kb b p id vs gs hv hg w rfl hb hk hr ha hN h0 h1
    obtain ⟨A, C, rfl, _, _⟩ := own_hdr hk.ov
    have hcv := hk.cv
    have Hr := Lib.hid hr
    clear hk hb hr ha hN
    show Calls Tryz.prog 138 _ _ _
    go_enter Tryz.func138, Tryz.ntmps138
    go_wp2_with fail
    go_loopw [1, 5] (fun idv iv wr => idv = .int .i64 id ∧ iv = .int .i64 0 ∧ wr = w) (fun _ _ _ => 0)
    case atStart => exact ⟨rfl, rfl, rfl⟩
    case round =>
      obtain ⟨rfl, rfl, rfl⟩ := hrel
      go_wp2_with fail
      go_ret
      exact ⟨by simp, Kept.refl _ _, fun i v hv => by simp at hv⟩
  hold := by
    rintro kb b p id vs gs hv hg w rfl hb hk hs hsg hN h0 h1
    obtain ⟨A, C, rfl, _, _⟩ := own_hdr hk.ov
    have hcv := hk.cv
    clear hk hb hs hsg hN
    show Calls Tryz.prog 155 _ _ _
    go_enter Tryz.func155, Tryz.ntmps155
    go_wp2_with fail
    go_loopw [1, 6, 7] (fun idv av iv wr => idv = .int .i64 id ∧ av = .bool true ∧ iv = .int .i64 0 ∧ wr = w) (fun _ _ _ _ => 0)
    case atStart => exact ⟨rfl, rfl, rfl, rfl⟩
    case round =>
      obtain ⟨rfl, rfl, rfl, rfl⟩ := hrel
      go_wp2_with fail
      go_ret2
      exact ⟨by simp, Below.refl _ _⟩
  grow := by
    rintro kb t b p id vs gs hv hg w rfl ht hb hk hgl hgr hap hN h0 h1
    obtain ⟨A, C, rfl, _, _⟩ := own_hdr hk.ov
    have Hst := Lib.hid (GrowInv.start hb hk hgl hgr hap)
    have hcv := hk.cv
    clear hk hb hgl hgr hap hN
    show Calls Tryz.prog 172 _ _ _
    go_enter Tryz.func172, Tryz.ntmps172
    go_wp2_with fail
    go_loopw [1, 7] (fun idv iv wr => idv = .int .i64 id ∧ iv = .int .i64 0 ∧ wr = w) (fun _ _ _ => 0)
    case atStart => exact ⟨rfl, rfl, rfl⟩
    case round =>
      obtain ⟨rfl, rfl, rfl⟩ := hrel
      go_wp2_with fail
      go_ret
      exact ⟨by simp, _, _, by have := Hst.out; rw [show laidN t 0 ([] : List Value).length = ([] : List Value).length by unfold laidN; split <;> rfl] at this; exact this⟩
theorem empty16 : KindOK 16 (fun vs => vs = []) where
  untouched := by
    rintro kb b p vs ws hv hw U w rfl hb hk - - -
    obtain ⟨A, C, rfl, _, _⟩ := own_hdr hk.hvs.2
    have hcv := hk.hvs.1
    clear hk hb
    show Calls Tryz.prog 122 _ _ _
    go_enter Tryz.func122, Tryz.ntmps122
    go_wp2_with fail
    go_loopw [3] (fun iv wr => iv = .int .i64 0 ∧ wr = w) (fun _ _ => 0)
    case atStart => exact ⟨rfl, rfl⟩
    case round =>
      obtain ⟨rfl, rfl⟩ := hrel
      go_wp2_with fail
      go_ret
      exact ⟨rfl, Below.refl _ _⟩
  write := by
    rintro kb b p id vs gs hv hg w rfl hb hk hr ha hN h0 h1
    obtain ⟨A, C, rfl, _, _⟩ := own_hdr hk.ov
    have hcv := hk.cv
    have Hr := Lib.hid hr
    clear hk hb hr ha hN
    show Calls Tryz.prog 139 _ _ _
    go_enter Tryz.func139, Tryz.ntmps139
    go_wp2_with fail
    go_loopw [1, 5] (fun idv iv wr => idv = .int .i64 id ∧ iv = .int .i64 0 ∧ wr = w) (fun _ _ _ => 0)
    case atStart => exact ⟨rfl, rfl, rfl⟩
    case round =>
      obtain ⟨rfl, rfl, rfl⟩ := hrel
      go_wp2_with fail
      go_ret
      exact ⟨by simp, Kept.refl _ _, fun i v hv => by simp at hv⟩
  hold := by
    rintro kb b p id vs gs hv hg w rfl hb hk hs hsg hN h0 h1
    obtain ⟨A, C, rfl, _, _⟩ := own_hdr hk.ov
    have hcv := hk.cv
    clear hk hb hs hsg hN
    show Calls Tryz.prog 156 _ _ _
    go_enter Tryz.func156, Tryz.ntmps156
    go_wp2_with fail
    go_loopw [1, 6, 7] (fun idv av iv wr => idv = .int .i64 id ∧ av = .bool true ∧ iv = .int .i64 0 ∧ wr = w) (fun _ _ _ _ => 0)
    case atStart => exact ⟨rfl, rfl, rfl, rfl⟩
    case round =>
      obtain ⟨rfl, rfl, rfl, rfl⟩ := hrel
      go_wp2_with fail
      go_ret2
      exact ⟨by simp, Below.refl _ _⟩
  grow := by
    rintro kb t b p id vs gs hv hg w rfl ht hb hk hgl hgr hap hN h0 h1
    obtain ⟨A, C, rfl, _, _⟩ := own_hdr hk.ov
    have Hst := Lib.hid (GrowInv.start hb hk hgl hgr hap)
    have hcv := hk.cv
    clear hk hb hgl hgr hap hN
    show Calls Tryz.prog 173 _ _ _
    go_enter Tryz.func173, Tryz.ntmps173
    go_wp2_with fail
    go_loopw [1, 7] (fun idv iv wr => idv = .int .i64 id ∧ iv = .int .i64 0 ∧ wr = w) (fun _ _ _ => 0)
    case atStart => exact ⟨rfl, rfl, rfl⟩
    case round =>
      obtain ⟨rfl, rfl, rfl⟩ := hrel
      go_wp2_with fail
      go_ret
      exact ⟨by simp, _, _, by have := Hst.out; rw [show laidN t 0 ([] : List Value).length = ([] : List Value).length by unfold laidN; split <;> rfl] at this; exact this⟩
end Bk
end Go.Proofs.YtmeoafodcniliaaGreatDoor
