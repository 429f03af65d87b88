/- A byte as % and two digits: what the call computes. -/
import Derived.Test.YthedhominhgeaaaDoorSmall
namespace Go.Proofs.YthedhominhgeaaaDoor
open Go.RowKit
set_option linter.unusedVariables false
attribute [local go_sem] nat_byt str_size str_get str_from str_to str_list lit_nil str_add lit_slash

def hexL : List UInt8 := [48, 49, 50, 51, 52, 53, 54, 55, 56, 57, 65, 66, 67, 68, 69, 70]
def hexd (n : Nat) : UInt8 := hexL.getD n 0
def pct (c : UInt8) : List UInt8 := [37, hexd (c.toNat / 16), hexd (c.toNat % 16)]

theorem hex_at (n : Nat) (hn : n < 16) (h : n < (⟨#[48, 49, 50, 51, 52, 53, 54, 55, 56, 57, 65, 66, 67, 68, 69, 70]⟩ : ByteArray).size) : (⟨#[48, 49, 50, 51, 52, 53, 54, 55, 56, 57, 65, 66, 67, 68, 69, 70]⟩ : ByteArray)[n]'h = hexd n := by
  have : ∀ n : Fin 16, (⟨#[48, 49, 50, 51, 52, 53, 54, 55, 56, 57, 65, 66, 67, 68, 69, 70]⟩ : ByteArray)[n.val]'(n.isLt) = hexd n.val := by decide +kernel
  exact this ⟨n, hn⟩
set_option maxHeartbeats 1000000 in
theorem percent_any (c : UInt8) (w : World) : Calls Tryd.prog 29 #[.int .u8 (byt c)] w fun e w' => e = .returned (.string (str (pct c))) ∧ Below w.heap.size w w' := by
  have hlt := byt_lt c; have hge := byt_nonneg c
  have k1 : 0 ≤ byt c / 16 := by omega
  have k2 : byt c / 16 < 16 := by omega
  have k3 : 0 ≤ byt c % 16 := by omega
  have k4 : byt c % 16 < 16 := by omega
  have t1 : (byt c / 16).toNat = c.toNat / 16 := by unfold byt; omega
  have t2 : (byt c % 16).toNat = c.toNat % 16 := by unfold byt; omega
  have e1 : ∀ h, (⟨#[48, 49, 50, 51, 52, 53, 54, 55, 56, 57, 65, 66, 67, 68, 69, 70]⟩ : ByteArray)[(byt c / 16).toNat]'h = hexd (c.toNat / 16) := fun h => by
    rw [hex_at _ (by omega), t1]
  have e2 : ∀ h, (⟨#[48, 49, 50, 51, 52, 53, 54, 55, 56, 57, 65, 66, 67, 68, 69, 70]⟩ : ByteArray)[(byt c % 16).toNat]'h = hexd (c.toNat % 16) := fun h => by
    rw [hex_at _ (by omega), t2]
  unfold pct
  clear t1 t2
  have u1 : (byt c / 16) < ((⟨#[48, 49, 50, 51, 52, 53, 54, 55, 56, 57, 65, 66, 67, 68, 69, 70]⟩ : ByteArray).size : Int) := k2
  generalize hexd (c.toNat / 16) = x at *
  generalize hexd (c.toNat % 16) = y at *
  obtain ⟨w1, hw1⟩ : ∃ x', x' = (w.alloc (.cells #[.int .u8 37, .int .u8 (byt x), .int .u8 (byt y)] 5)).drew := ⟨_, rfl⟩
  have hblk : w1.heap[w.heap.size]? = some (.cells #[.int .u8 37, .int .u8 (byt x), .int .u8 (byt y)] 5) := by rw [hw1]; exact heap_alloc_new w _
  have hrow : Row w.heap.size [37, x, y] w1 := by
    refine ⟨fun i z hi => ?_, fun i hi => by simp [World.frozen?, hblk]⟩
    rw [cell_of_row _ _ _ _ _ _ hblk]
    match i, hi with
    | 0, hi => simp at hi; subst hi; rfl
    | 1, hi => simp at hi; subst hi; rfl
    | 2, hi => simp at hi; subst hi; rfl
  have q := hrow.back (n := 3) (cap := 3) rfl
  have hb : Below w.heap.size w w1 := by rw [hw1]; exact Below.drew ((Below.refl _ _).alloc (Nat.le_refl _) _)
  rw [hw1] at q
  have HW := Lib.hid hw1; have HB := Lib.hid hb
  clear hrow hblk hw1 hb
  go_enter Tryd.func29, Tryd.ntmps29
  go_wp2_with fail
  go_region
  go_wp2_with fail
  go_ret
  exact ⟨rfl, by rw [← HW.out]; exact HB.out⟩
end Go.Proofs.YthedhominhgeaaaDoor
