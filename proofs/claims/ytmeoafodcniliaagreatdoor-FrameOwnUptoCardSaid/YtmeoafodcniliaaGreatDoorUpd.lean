/- crc.Update and crc.Sum answer what the register does. -/
import Derived.Test.YtmeoafodcniliaaGreatDoorProg
import Derived.Test.YtmeoafodcniliaaGreatDoorWords
import Derived.Test.YtmeoafodcniliaaGreatDoorCrc
namespace Go.Proofs.YtmeoafodcniliaaGreatDoor
open Go.RowKit
set_option linter.unusedSimpArgs false
set_option linter.unusedVariables false
attribute [local go_sem ↓] n32_shl n32_shr n8_shr
attribute [local go_sem] u32_signed n32_xor n32_and n32_not n8_xor n8_and15 n32to8 n8to32

/-- The table lies where the program's start has laid it. -/
def TabIn (w : World) : Prop := ∀ i (h : i < Crc.tab.length), w.cell? ⟨1, i, none⟩ = some (V32 (Crc.tab[i]))

theorem TabIn.at_ {w : World} (h : TabIn w) (i : BitVec 8) (hi : i.toNat < 16) : w.cell? ⟨1, n8 i, none⟩ = some (V32 (Crc.tabAt i)) := by
  have h1 := h i.toNat hi
  rw [Crc.tabAt_eq i hi] at h1
  exact h1

set_option maxHeartbeats 400000 in
theorem update_calls (c : BitVec 32) (A : Option Addr) (n cap B : Nat) (bs : List (BitVec 8)) (w : World) (ht : TabIn w) (hn : n = bs.length) (hm : n ≤ maxLen) (hr : Rd w B A (bs.map V8)) :
    Calls Tryz.prog 239 #[.int .u32 (n32 c), .slice A n cap] w fun e w' => e = .returned (.int .u32 (n32 (~~~ Crc.runT (~~~ c) bs))) ∧ w = w' := by
  unfold maxLen at hm
  have Ht := Lib.hid ht; clear ht
  have Hr := Lib.hid hr; clear hr
  have Hn := Lib.hid hn; clear hn
  go_enter Tryz.func239, Tryz.ntmps239
  go_wp2
  go_loop [5, 12] (fun x i => ∃ k : Nat, k ≤ n ∧ i = .int .i64 k ∧ x = .int .u32 (n32 (Crc.runT (~~~ c) (bs.take k)))) (fun _ i => n - (intOf i).toNat)
  case atStart => exact ⟨0, Nat.zero_le _, rfl, rfl⟩
  case round =>
    obtain ⟨k, hk, rfl, rfl⟩ := hrel
    by_cases hlt : k < n
    · obtain ⟨b, off, rfl, hb, hc⟩ := Hr.out.at_ (k := k) (by rw [List.length_map]; have := Hn.out; omega)
      obtain ⟨y, hy⟩ : ∃ y, y = bs[k]'(by have := Hn.out; omega) := ⟨_, rfl⟩
      rw [List.getElem_map, ← hy] at hc
      have hs : Crc.runT (~~~ c) (bs.take (k + 1)) = Crc.byteT (Crc.runT (~~~ c) (bs.take k)) y := by
        have : k < bs.length := by have := Hn.out; omega
        rw [List.take_succ_eq_append_getElem this, ← hy]
        simp [Crc.runT]
      have Hs := Lib.hid hs; clear hs hy
      generalize hx : Crc.runT (~~~ c) (bs.take k) = x at Hs ⊢
      clear hx
      have i1 := Crc.nib_lt x (y >>> 4) (Crc.shr4_lt y)
      have c1 := Ht.out.at_ _ i1
      have j1 : (n8 ((x >>> 28).setWidth 8 ^^^ y >>> 4) : Int) < 16 := by have : n8 ((x >>> 28).setWidth 8 ^^^ y >>> 4) < 16 := i1; omega
      have i2 := Crc.nib_lt (Crc.nib x (y >>> 4)) (y &&& 15#8) (Crc.and15_lt y)
      have c2 := Ht.out.at_ _ i2
      have j2 : (n8 ((Crc.nib x (y >>> 4) >>> 28).setWidth 8 ^^^ y &&& 15#8) : Int) < 16 := by have : n8 ((Crc.nib x (y >>> 4) >>> 28).setWidth 8 ^^^ y &&& 15#8) < 16 := i2; omega
      clear i1 i2
      simp only [Crc.nib] at c2 j2
      go_wp2
      go_round
      case rel => exact ⟨k + 1, by omega, by go_num, by rw [Hs.out]; rfl⟩
      case measure => simp [intOf]; omega
    · go_wp2
      go_ret
      have : k = n := by omega
      subst this
      have e : bs.take k = bs := by rw [Hn.out]; exact List.take_length
      rw [e]
      exact ⟨rfl, rfl⟩
end Go.Proofs.YtmeoafodcniliaaGreatDoor
