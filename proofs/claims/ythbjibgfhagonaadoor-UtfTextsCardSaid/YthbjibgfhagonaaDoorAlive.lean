/- The first line of each law: a few calls at given inputs; it returns true. -/
import Derived.Test.YthbjibgfhagonaaDoorLines
import Derived.Laws.BytesArg
import Derived.Lib.SlBytesConst
namespace Go.Proofs.YthbjibgfhagonaaDoor
open Go.RowKit
set_option linter.unusedVariables false

theorem v_next : nextP [226, 130, 172] 0 = (8364, 3) := by decide
theorem v_put : putB [1] 8364 = [1, 226, 130, 172] := by decide
theorem v_valid : Lib.validRune 8364 = true := by decide
theorem v_bad : Lib.validRune 55296 = false := by decide
theorem v_check : checkP [97, 98, 0] = (2, false) := by decide
theorem v_name : nameA [97, 45, 49] = (0, true) := by decide
theorem v_noname : nameA [49, 97] = (0, false) := by decide
theorem v_lines : linesB [97, 13, 10, 13] = [97, 10, 10] := by decide
theorem v_strip : stripB [239, 187, 191, 120] = [120] := by decide
theorem v_char : charP 9 = true := by decide
theorem v_blank : blankP 10 = true := by decide

theorem isB_lit (w : World) (l : List UInt8) (ob : Obj) (n : Nat) (hob : ob = lit l) (hn : l.length = n) : IsB (w.alloc ob) (.slice (some ⟨w.heap.size, 0, none⟩) n n) l := by
  subst hob hn
  exact ⟨_, _, _, rfl, rfl, Nat.le_refl _, fun h => by simp at h, .inr ⟨_, 0, rfl, bytes_lit w l 5 _⟩⟩
theorem isB_ne {w : World} {v : Value} {bs : List UInt8} (h : IsB w v bs) (h0 : bs ≠ []) (n : Nat) (hn : bs.length = n) : ∃ b o cap, v = .slice (some ⟨b, o, none⟩) n cap ∧ n ≤ cap ∧ ∀ i c, bs[i]? = some c → w.cell? ⟨b, o + i, none⟩ = some (.int .u8 (byt c)) := by
  obtain ⟨a, n, cap, rfl, rfl, h2, h3, h4⟩ := h
  subst hn
  rcases h4 with rfl | ⟨b, o, rfl, hc⟩
  · exact absurd rfl h0
  · exact ⟨b, o, cap, rfl, h2, hc⟩
theorem str_of {w : World} {b o cap : Nat} {bs : List UInt8} (hc : ∀ i c, bs[i]? = some c → w.cell? ⟨b, o + i, none⟩ = some (.int .u8 (byt c))) :
    ∀ n, bs.length = n → (convert 24 9 (.slice (some ⟨b, o, none⟩) n cap)).run Tryd.prog w = .ok (.string ⟨bs.toArray⟩) w := fun n hn => by
  subst hn
  exact run_convert_bytes_back w 24 9 5 ⟨b, o, none⟩ cap bs Tryd.underlying24 Tryd.underlying5 Tryd.underlying9 (fun j hj => by
    rw [plain_add, hc j bs[j] (by simp [hj])]; rfl)

set_option maxHeartbeats 1000000 in
theorem alive_any (w : World) (hT : Tabs w) (hT2 : Tab2 w) : Calls Tryd.prog 8 #[] w fun e w' => e = .returned (.bool true) ∧ Below w.heap.size w w' := by
  have HT := Lib.hid hT; have HT2 := Lib.hid hT2; have HS := Lib.hid hT.size
  clear hT hT2
  have kc := fun (w : World) (C : Array Value) (n c : Nat) => Lib.run_convert_bytes_const (P := Tryd.prog) w 24 5 C n c Tryd.underlying24 Tryd.underlying5
  go_enter Tryd.func8, Tryd.ntmps8
  go_wp2_with fail
  have b0 : Below w.heap.size w (w.alloc (.cells #[.int .u8 226, .int .u8 130, .int .u8 172] 5)) := (Below.refl _ _).alloc (Nat.le_refl _) _
  have c1 := next_any (some ⟨w.heap.size, 0, none⟩) 3 3 0 [226, 130, 172] (w.alloc (.cells #[.int .u8 226, .int .u8 130, .int .u8 172] 5)) rfl (by omega) (by omega) (.inr ⟨_, 0, rfl, bytes_lit w [226, 130, 172] 5 _⟩) (HT.out.below HS.out b0)
  rw [v_next] at c1
  refine c1.mono ?_
  rintro e w1 ⟨rfl, hb1⟩
  have B1 := Lib.hid (b0.trans (hb1.mono b0.size))
  clear c1 b0 hb1
  go_wp2_with fail
  have g1 := Below.refl w1.heap.size w1 |>.alloc (Nat.le_refl _) (.cells #[.int .u8 1] 5)
  have b1 := B1.out.trans (g1.mono B1.out.size)
  have c2 := put_any (some ⟨w1.heap.size, 0, none⟩) 1 1 [1] 8364 (w1.alloc (.cells #[.int .u8 1] 5)) rfl (by omega) (fun h => by simp at h) (by omega) (by omega) (.inr ⟨_, 0, rfl, bytes_lit w1 [1] 5 _⟩)
  rw [v_put, v_valid] at c2
  refine c2.mono ?_
  rintro e w2 ⟨v, rfl, hv, hb2⟩
  obtain ⟨vb, vo, vc, rfl, hvc, hcell⟩ := isB_ne hv.isB (by simp) 4 rfl
  have HV := Lib.hid hcell
  have B2 := Lib.hid (b1.trans (hb2.mono b1.size))
  clear c2 b1 g1 hb2 hv hcell
  go_wp2_with fail
  have c3 := put_any none 0 0 [] 55296 w2 rfl (by omega) (fun h => ⟨rfl, rfl⟩) (by omega) (by omega) (.inl rfl)
  rw [v_bad] at c3
  refine c3.mono ?_
  rintro e w3 ⟨v3, rfl, hv3, hb3⟩
  have HV3 : Hid (∀ i c, ([1, 226, 130, 172] : List UInt8)[i]? = some c → w3.cell? ⟨vb, vo + i, none⟩ = some (.int .u8 (byt c))) := fun i c h => cell_at hb3 (HV.out i c h)
  have B3 := Lib.hid (B2.out.trans (hb3.mono B2.out.size))
  clear c3 hv3 hb3 HV
  go_wp2_with fail
  have g3 := Below.refl w3.heap.size w3 |>.alloc (Nat.le_refl _) (.cells #[.int .u8 97, .int .u8 98, .int .u8 0] 5 (3, 4))
  have b3 := B3.out.trans (g3.mono B3.out.size)
  have c4 := check_any (some ⟨w3.heap.size, 0, none⟩) 3 3 [97, 98, 0] (w3.alloc (.cells #[.int .u8 97, .int .u8 98, .int .u8 0] 5 (3, 4))) rfl (by omega) (by omega) (.inr ⟨_, 0, rfl, bytes_lit w3 [97, 98, 0] 5 _⟩) (HT.out.below HS.out b3)
  rw [v_check] at c4
  refine c4.mono ?_
  rintro e w4 ⟨rfl, hb4⟩
  have HV4 : Hid (∀ i c, ([1, 226, 130, 172] : List UInt8)[i]? = some c → w4.cell? ⟨vb, vo + i, none⟩ = some (.int .u8 (byt c))) := fun i c h => cell_at (g3.trans (hb4.mono g3.size)) (HV3.out i c h)
  have B4 := Lib.hid (b3.trans (hb4.mono b3.size))
  clear c4 b3 g3 hb4 HV3
  go_wp2_with fail
  have g4 := Below.refl w4.heap.size w4 |>.alloc (Nat.le_refl _) (.cells #[.int .u8 1, .int .u8 226, .int .u8 130, .int .u8 172] 5)
  have b4 := B4.out.trans (g4.mono B4.out.size)
  have c5 := same_any (some ⟨vb, vo, none⟩) (some ⟨w4.heap.size, 0, none⟩) 4 4 vc 4 [1, 226, 130, 172] [1, 226, 130, 172] (w4.alloc (.cells #[.int .u8 1, .int .u8 226, .int .u8 130, .int .u8 172] 5)) rfl rfl (by omega) (by omega) (.inr ⟨_, _, rfl, fun i c h => cell_at g4 (HV4.out i c h)⟩) (.inr ⟨_, 0, rfl, bytes_lit w4 [1, 226, 130, 172] 5 _⟩)
  rw [decide_eq_true rfl] at c5
  refine c5.mono ?_
  rintro e w5 ⟨rfl, hb5⟩
  have B5 := Lib.hid (b4.trans (hb5.mono b4.size))
  clear c5 b4 g4 hb5 HV4
  go_wp2_with fail
  have c6 := name_any ⟨#[97, 45, 49]⟩ w5 (by decide) (HT.out.below HS.out B5.out)
  rw [show ((nameA (strB ⟨#[97, 45, 49]⟩)).2 && decide (strB ⟨#[97, 45, 49]⟩ ≠ [])) = true from by decide] at c6
  refine c6.mono ?_
  rintro e w6 ⟨rfl, hb6⟩
  have B6 := Lib.hid (B5.out.trans (hb6.mono B5.out.size))
  clear c6 hb6
  go_wp2_with fail
  have c7 := name_any ⟨#[49, 97]⟩ w6 (by decide) (HT.out.below HS.out B6.out)
  rw [show ((nameA (strB ⟨#[49, 97]⟩)).2 && decide (strB ⟨#[49, 97]⟩ ≠ [])) = false from by decide] at c7
  refine c7.mono ?_
  rintro e w7 ⟨rfl, hb7⟩
  have B7 := Lib.hid (B6.out.trans (hb7.mono B6.out.size))
  clear c7 hb7
  go_wp2_with fail
  have g7 := Below.refl w7.heap.size w7 |>.alloc (Nat.le_refl _) (.cells #[.int .u8 97, .int .u8 13, .int .u8 10, .int .u8 13] 5 (4, 5))
  have b7 := B7.out.trans (g7.mono B7.out.size)
  have c8 := lines_any (some ⟨w7.heap.size, 0, none⟩) 4 4 [97, 13, 10, 13] (w7.alloc (.cells #[.int .u8 97, .int .u8 13, .int .u8 10, .int .u8 13] 5 (4, 5))) rfl (by omega) (by omega) (fun h => by simp at h) (.inr ⟨_, 0, rfl, bytes_lit w7 [97, 13, 10, 13] 5 _⟩) (HT2.out.below b7)
  rw [v_lines] at c8
  refine c8.mono ?_
  rintro e w8 ⟨v, rfl, hv, hb8⟩
  obtain ⟨xb, xo, xc, rfl, hxc, hcell⟩ := isB_ne hv (by simp) 3 rfl
  have HX := str_of (cap := xc) hcell 3 rfl
  have B8 := Lib.hid (b7.trans (hb8.mono b7.size))
  clear c8 b7 g7 hb8 hv hcell
  go_wp2_with fail
  clear HX
  have g8 := Below.refl w8.heap.size w8 |>.alloc (Nat.le_refl _) (.cells #[.int .u8 239, .int .u8 187, .int .u8 191, .int .u8 120] 5 (4, 5))
  have b8 := B8.out.trans (g8.mono B8.out.size)
  have c9 := strip_any (some ⟨w8.heap.size, 0, none⟩) 4 4 [239, 187, 191, 120] (w8.alloc (.cells #[.int .u8 239, .int .u8 187, .int .u8 191, .int .u8 120] 5 (4, 5))) rfl (by omega) (by omega) (fun h => by simp at h) (.inr ⟨_, 0, rfl, bytes_lit w8 [239, 187, 191, 120] 5 _⟩)
  rw [v_strip] at c9
  refine c9.mono ?_
  rintro e w9 ⟨v, rfl, hv, hb9⟩
  obtain ⟨yb, yo, yc, rfl, hyc, hcell⟩ := isB_ne hv.isB (by simp) 1 rfl
  have HY := str_of (cap := yc) hcell 1 rfl
  have B9 := Lib.hid (b8.trans (hb9.mono b8.size))
  clear c9 b8 g8 hb9 hv hcell
  go_wp2_with fail
  clear HY
  have c10 := char_any 9 w9
  rw [v_char] at c10
  refine c10.mono ?_
  rintro e w10 ⟨rfl, hb10⟩
  have B10 := Lib.hid (B9.out.trans (hb10.mono B9.out.size))
  clear c10 hb10
  go_wp2_with fail
  have c11 := blank_any 10 w10
  rw [v_blank] at c11
  refine c11.mono ?_
  rintro e w11 ⟨rfl, rfl⟩
  go_wp2_with fail
  go_ret
  exact ⟨rfl, B10.out⟩
end Go.Proofs.YthbjibgfhagonaaDoor
