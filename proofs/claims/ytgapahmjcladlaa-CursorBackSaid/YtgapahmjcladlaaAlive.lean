/- Two numbers, and the bytes that they tell: the call answers true. -/
import Derived.Test.YtgapahmjcladlaaWrit
import Derived.Lib.SlBytesConst
namespace Go.Proofs.Ytgapahmjcladlaa
open Go.RowKit
set_option linter.unusedVariables false

def b0 : List UInt8 := [2, 0, 1, 0, 65, 66, 67, 80, 75, 5, 6]
def f0 : List Fl := [⟨0, 2, []⟩, ⟨0, 1, []⟩, ⟨2, 0, [65, 66]⟩, ⟨2, 0, [67]⟩, ⟨3, 0, [80, 75, 5, 6]⟩]
theorem b0_read : readV b0 0 [0, 0, 2, 2, 3] = some (f0, 11) := by rfl
theorem b0_none : readV b0 0 [2] = none := by rfl
theorem b0_write : writeV f0 = b0 := by rfl
theorem b0_num : numV b0 7 4 = 101010256 := by rfl
theorem b0_sign : leB 101010256 4 = [80, 75, 5, 6] := by rfl
theorem b0_at {i : Nat} (h : atS b0 i (leB 101010256 4)) : i = 7 := by
  obtain ⟨h1, h2⟩ := h
  have h3 : i + 4 ≤ 11 := h1
  have : ∀ i, i < 8 → (b0.drop i).take 4 = leB 101010256 4 → i = 7 := by decide
  exact this i (by omega) h2
theorem b0_at7 : atS b0 7 (leB 101010256 4) := ⟨by decide, by rfl⟩
theorem b0_last : LastIs b0 (leB 101010256 4) 7 := .inr ⟨7, rfl, b0_at7, fun i h1 h2 => by have := b0_at h2; omega⟩
theorem b0_first : FirstIs b0 8 (leB 101010256 4) (-1) := .inl ⟨rfl, fun i h1 h2 => by have := b0_at h2; omega⟩
theorem ints_lit (w : World) (l : List Int) (t : TypeId) (m : Nat × Nat) : Ints (w.alloc (.cells (l.map fun c => Value.int .i64 c).toArray t m)) (some ⟨w.heap.size, 0, none⟩) l := .inr ⟨_, _, rfl, fun i c hc => by
  rw [Nat.zero_add, World.cell?_alloc_mark]
  simp [hc]⟩

set_option maxRecDepth 100000 in
set_option maxHeartbeats 2000000 in
theorem alive_any (w : World) (hT : Tab w) : Calls Try.prog 7 #[] w fun e w' => e = .returned (.bool true) ∧ Below w.heap.size w w' := by
  have hlen : Hid (b0.length = 11) := by unfold Hid; decide
  have HT := Lib.hid hT
  clear hT
  have kc := fun (w : World) (C : Array Value) (n c : Nat) => Lib.run_convert_bytes_const (P := Try.prog) w 22 5 C n c Try.underlying22 Try.underlying5
  obtain ⟨w1, hw1⟩ : ∃ x, x = w.alloc (.cells #[.int .u8 2, .int .u8 0, .int .u8 1, .int .u8 0, .int .u8 65, .int .u8 66, .int .u8 67, .int .u8 80, .int .u8 75, .int .u8 5, .int .u8 6] 5) := ⟨_, rfl⟩
  obtain ⟨A, hA⟩ : ∃ A, A = w.heap.size := ⟨_, rfl⟩
  have hA1 : w1.heap.size = A + 1 := by rw [hw1, World.size_alloc, hA]
  have HY1 : Hid (Bytes w1 (some ⟨A, 0, none⟩) b0) := by rw [hw1, hA]; exact Lib.hid (.inr ⟨_, _, rfl, bytes_lit w b0 5 (0, 0)⟩)
  have HB1 : Hid (Below w.heap.size w w1) := by rw [hw1]; exact Lib.hid ((Below.refl _ _).alloc (Nat.le_refl _) _)
  obtain ⟨w2, hw2⟩ : ∃ x, x = w1.alloc (.cells #[.int .i64 0, .int .i64 0, .int .i64 2, .int .i64 2, .int .i64 3] 26) := ⟨_, rfl⟩
  have HI2 : Hid (Ints w2 (some ⟨A + 1, 0, none⟩) [0, 0, 2, 2, 3]) := by rw [hw2, ← hA1]; exact Lib.hid (ints_lit w1 [0, 0, 2, 2, 3] 26 (0, 0))
  have hb2 : Below w1.heap.size w1 w2 := by rw [hw2]; exact (Below.refl _ _).alloc (Nat.le_refl _) _
  have HY2 := Lib.hid (HY1.out.below hb2); have HB2 := Lib.hid (below_step HB1.out hb2)
  have HR := Lib.hid (read_any (some ⟨A, 0, none⟩) 11 11 0 (some ⟨A + 1, 0, none⟩) 5 5 b0 [0, 0, 2, 2, 3] hlen.out (by omega) (by omega) (fun h => by cases h) rfl (by omega) w2 HY2.out HI2.out)
  rw [b0_read, hw2, hw1, hA] at HR
  have HA := Lib.hid hA
  clear HY1 HB1 HI2 hb2 hA1 hA
  go_enter Try.func7, Try.ntmps7
  go_wp2_with fail
  refine HR.out.mono ?_
  rw [← hw1, ← hw2]
  rintro e w3 ⟨h3, lv, rfl, hO⟩
  have HY3 := Lib.hid (HY2.out.below h3); have HB3 := Lib.hid (below_step HB2.out h3)
  rw [← HA.out]
  obtain ⟨lo, lc, hlv, _, _⟩ := hO.form
  rw [show f0.length = 5 from rfl] at hlv
  subst hlv
  have HF3 := Lib.hid hO.fs
  clear HY2 HB2 HR hw1 hw2 h3 hO
  have HU := Lib.hid (u32_any (some ⟨A, 0, none⟩) 11 11 7 b0 hlen.out (by omega) (by omega) (fun h => by cases h) w3 HY3.out)
  rw [b0_num, decide_eq_true (show fits 11 7 4 by decide)] at HU
  go_wp2_with fail
  refine HU.out.mono ?_
  rintro e wx ⟨rfl, hww⟩
  rw [hww]
  clear hww wx
  have HW := Lib.hid (write_any 0 lo 5 lc f0 rfl (by omega) (by decide) (by decide) w3 HF3.out)
  rw [b0_write] at HW
  clear HU
  go_wp2_with fail
  refine HW.out.mono ?_
  rintro e w4 ⟨v, rfl, hO4, h4⟩
  have HY4 := Lib.hid (HY3.out.below h4); have HB4 := Lib.hid (HB3.out.trans (h4.mono HB3.out.size)); have HF4 := Lib.hid (HF3.out.below h4)
  obtain ⟨so, sc, hv4, _, _⟩ := hO4.form3
  rw [hlen.out] at hv4
  subst hv4
  have HO4 := Lib.hid (hO4.bytes' (n := 11) hlen.out)
  clear h4 HY3 HB3 HF3 hO4 HW
  obtain ⟨w5, hw5⟩ : ∃ x, x = w4.alloc (.cells #[.int .i64 2] 26) := ⟨_, rfl⟩
  have HI5 : Hid (Ints w5 (some ⟨w4.heap.size, 0, none⟩) [2]) := by rw [hw5]; exact Lib.hid (ints_lit w4 [2] 26 (0, 0))
  have hb5 : Below w4.heap.size w4 w5 := by rw [hw5]; exact (Below.refl _ _).alloc (Nat.le_refl _) _
  have HY5 := Lib.hid (HY4.out.below hb5); have HB5 := Lib.hid (below_step HB4.out hb5); have HO5 := Lib.hid (HO4.out.below hb5); have HF5 := Lib.hid (HF4.out.below hb5)
  have HR := Lib.hid (read_any (some ⟨A, 0, none⟩) 11 11 0 (some ⟨w4.heap.size, 0, none⟩) 1 1 b0 [2] hlen.out (by omega) (by omega) (fun h => by cases h) rfl (by omega) w5 HY5.out HI5.out)
  rw [b0_none, hw5] at HR
  clear HY4 HB4 HO4 HF4 HI5 hb5
  go_wp2_with fail
  refine HR.out.mono ?_
  rw [← hw5]
  rintro e w6 ⟨h6, rfl⟩
  have HY6 := Lib.hid (HY5.out.below h6); have HB6 := Lib.hid (HB5.out.trans (h6.mono HB5.out.size)); have HO6 := Lib.hid (HO5.out.below h6); have HF6 := Lib.hid (HF5.out.below h6)
  clear h6 HY5 HB5 HO5 HF5 HR hw5
  obtain ⟨g, rfl, c00, c01, _⟩ := HF6.out 0 _ rfl
  obtain ⟨g2, hg2, c20, c21, v2, c22, hv2⟩ := HF6.out 2 _ rfl
  obtain ⟨g3, hg3, c30, c31, v3, c32, hv3⟩ := HF6.out 3 _ rfl
  injection hg2 with hg2
  injection hg3 with hg3
  injection hg2 with hg2
  injection hg3 with hg3
  subst hg2; subst hg3
  obtain ⟨a2, p2, rfl, _, _, hy2⟩ := hv2.bytes
  obtain ⟨a3, p3, rfl, _, _, hy3⟩ := hv3.bytes
  have e1 : w6.cell? ⟨g, 1, none⟩ = some (.int .i64 2) := c01
  have e2 : w6.cell? ⟨g, 8, none⟩ = some (.slice a2 2 p2) := c22
  have e3 : w6.cell? ⟨g, 11, none⟩ = some (.slice a3 1 p3) := c32
  have HV2 : Hid (Bytes w6 a2 [65, 66]) := Lib.hid hy2
  have HV3 : Hid (Bytes w6 a3 [67]) := Lib.hid hy3
  clear c00 c01 c20 c21 c22 c30 c31 c32 hv2 hv3 hy2 hy3 HF6
  have HV26 := HV2; have HV36 := HV3; clear HV2 HV3
  have HT6 := Lib.hid (HT.out.below HB6.out); clear HT
  have HE36 : Hid (w6.cell? ⟨g, 11, none⟩ = some (.slice a3 1 p3)) := Lib.hid e3
  clear e3
  go_wp2_with fail
  have hb7 : Below w6.heap.size w6 (w6.alloc (.cells #[.int .u8 65, .int .u8 66] 5 (2, 3))) := (Below.refl _ _).alloc (Nat.le_refl _) _
  have HL7 : Hid (Bytes (w6.alloc (.cells #[.int .u8 65, .int .u8 66] 5 (2, 3))) (some ⟨w6.heap.size, 0, none⟩) [65, 66]) := Lib.hid (.inr ⟨_, _, rfl, bytes_lit w6 [65, 66] 5 (2, 3)⟩)
  have HE37 := Lib.hid (cell_at hb7 HE36.out)
  have HY7 := Lib.hid (HY6.out.below hb7); have HB7 := Lib.hid (below_step HB6.out hb7); have HO7 := Lib.hid (HO6.out.below hb7); have HV27 := Lib.hid (HV26.out.below hb7); have HV37 := Lib.hid (HV36.out.below hb7); have HT7 := Lib.hid (HT6.out.below hb7)
  clear HY6 HB6 HO6 HV26 HV36 HT6 hb7
  clear e1 e2 HE36
  refine (same_any a2 (some ⟨w6.heap.size, 0, none⟩) 2 2 p2 2 [65, 66] [65, 66] _ rfl rfl (by omega) (by omega) HV27.out HL7.out).mono ?_
  rw [decide_eq_true rfl]
  rintro e w8 ⟨rfl, hb8⟩
  have HE38 := Lib.hid (cell_at hb8 HE37.out)
  have HY8 := Lib.hid (HY7.out.below hb8); have HB8 := Lib.hid (below_step HB7.out hb8); have HO8 := Lib.hid (HO7.out.below hb8); have HV38 := Lib.hid (HV37.out.below hb8); have HT8 := Lib.hid (HT7.out.below hb8)
  clear HY7 HB7 HO7 HV37 HT7 hb8
  have e3 := HE38.out
  clear HV27 HL7 HE37
  go_wp2_with fail
  have hb9 : Below w8.heap.size w8 (w8.alloc (.cells #[.int .u8 67] 5 (1, 2))) := (Below.refl _ _).alloc (Nat.le_refl _) _
  have HL9 : Hid (Bytes (w8.alloc (.cells #[.int .u8 67] 5 (1, 2))) (some ⟨w8.heap.size, 0, none⟩) [67]) := Lib.hid (.inr ⟨_, _, rfl, bytes_lit w8 [67] 5 (1, 2)⟩)
  have HY9 := Lib.hid (HY8.out.below hb9); have HB9 := Lib.hid (below_step HB8.out hb9); have HO9 := Lib.hid (HO8.out.below hb9); have HV39 := Lib.hid (HV38.out.below hb9); have HT9 := Lib.hid (HT8.out.below hb9)
  clear HY8 HB8 HO8 HV38 HT8 hb9
  clear e3 HE38
  refine (same_any a3 (some ⟨w8.heap.size, 0, none⟩) 1 1 p3 1 [67] [67] _ rfl rfl (by omega) (by omega) HV39.out HL9.out).mono ?_
  rw [decide_eq_true rfl]
  rintro e w10 ⟨rfl, hb10⟩
  have HY10 := Lib.hid (HY9.out.below hb10); have HB10 := Lib.hid (below_step HB9.out hb10); have HO10 := Lib.hid (HO9.out.below hb10); have HT10 := Lib.hid (HT9.out.below hb10)
  clear HY9 HB9 HO9 HT9 hb10
  clear HV39 HL9 kc
  go_wp2_with fail
  refine (same_any so (some ⟨A, 0, none⟩) 11 11 sc 11 b0 b0 _ hlen.out hlen.out (by omega) (by omega) HO10.out HY10.out).mono ?_
  rw [decide_eq_true rfl]
  rintro e w11 ⟨rfl, hb11⟩
  have HY11 := Lib.hid (HY10.out.below hb11); have HB11 := Lib.hid (below_step HB10.out hb11); have HT11 := Lib.hid (HT10.out.below hb11)
  clear HY10 HB10 HT10 hb11
  clear HO10
  go_wp2_with fail
  refine (last_any (some ⟨A, 0, none⟩) 11 11 101010256 b0 hlen.out (by omega) (by omega) (by omega) w11 HY11.out).mono ?_
  rintro e w12 ⟨⟨r, rfl, hr⟩, hb12⟩
  have hr7 := hr.eq b0_last
  subst hr7
  have HY12 := Lib.hid (HY11.out.below hb12); have HB12 := Lib.hid (below_step HB11.out hb12); have HT12 := Lib.hid (HT11.out.below hb12)
  clear HY11 HB11 HT11 hb12
  clear hr
  go_wp2_with fail
  refine (first_any (some ⟨A, 0, none⟩) 11 11 101010256 8 b0 hlen.out (by omega) (by omega) (fun h => by cases h) (by omega) w12 HY12.out HT12.out).mono ?_
  rintro e w13 ⟨⟨r, rfl, hr⟩, hb13⟩
  have hr1 := FirstIs.eq hr b0_first
  subst hr1
  have HB13 := Lib.hid (below_step HB12.out hb13)
  clear HB12 hb13
  clear hr HY12 HT12
  go_wp2_with fail
  go_ret
  exact ⟨rfl, HB13.out⟩
end Go.Proofs.Ytgapahmjcladlaa
