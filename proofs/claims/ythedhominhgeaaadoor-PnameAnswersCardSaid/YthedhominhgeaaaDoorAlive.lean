/- The laws' first line: a name, and one that is made. -/
import Derived.Test.YthedhominhgeaaaDoorNorm
namespace Go.Proofs.YthedhominhgeaaaDoor
open Go.RowKit
set_option linter.unusedVariables false
attribute [local go_sem] nat_byt str_size str_get str_from str_to str_list lit_list

theorem v_norm : normalV [47, 97, 32, 98, 37, 52, 49] = .tuple #[.string (str [47, 97, 37, 50, 48, 98, 65]), .bool true] := by
  have h : normL [47, 97, 32, 98, 37, 52, 49] = [47, 97, 37, 50, 48, 98, 65] := by decide +kernel
  have h2 : rightB [47, 97, 37, 50, 48, 98, 65] = true := by decide +kernel
  unfold normalV; rw [h, h2]; rfl
theorem v_item : rightB [47, 119, 111, 114, 100, 47, 100, 111, 99, 117, 109, 101, 110, 116, 46, 120, 109, 108] = true := by decide +kernel
theorem v_part : rightB (47 :: [97, 47, 98]) = true := by decide +kernel
theorem v_no : rightB (47 :: [91, 67, 111, 110, 116, 101, 110, 116, 95, 84, 121, 112, 101, 115, 93, 46, 120, 109, 108]) = false := by decide +kernel
theorem v_split : lastP [47, 97, 47, 98, 46, 99] 47 = 3 := by decide +kernel
theorem v_r1 : rightB [47, 97, 47, 98, 46, 120, 109, 108] = true := by decide +kernel
theorem v_r2 : rightB [47, 97, 47] = false := by decide +kernel
theorem v_r3 : rightB [47, 97, 46] = false := by decide +kernel
theorem v_like : (foldL [47, 65] == foldL [47, 97]) = true := by decide +kernel
theorem v_c1 : clashB [47, 97] [47, 65, 47, 98] = true := by decide +kernel
theorem v_c2 : clashB [47, 97] [47, 97, 98] = false := by decide +kernel
theorem v_ext : extL [47, 97, 47, 98, 46, 88, 77, 76] = [120, 109, 108] := by decide +kernel

set_option maxHeartbeats 2000000 in
theorem alive_any (w : World) : Calls Tryd.prog 7 #[] w fun e w' => e = .returned (.bool true) ∧ Below w.heap.size w w' := by
  have c1 : ∀ w, Calls Tryd.prog 8 #[.string ⟨#[47, 97, 32, 98, 37, 52, 49]⟩] w fun e w' => e = .returned (.tuple #[.string (str [47, 97, 37, 50, 48, 98, 65]), .bool true]) ∧ Below w.heap.size w w' := fun w => by
    have := normal_any [47, 97, 32, 98, 37, 52, 49] w (by decide)
    rw [v_norm] at this; exact this
  have c2 : ∀ w, Calls Tryd.prog 11 #[.string ⟨#[47, 119, 111, 114, 100, 47, 100, 111, 99, 117, 109, 101, 110, 116, 46, 120, 109, 108]⟩] w fun e w' => e = .returned (.tuple #[.string (str [119, 111, 114, 100, 47, 100, 111, 99, 117, 109, 101, 110, 116, 46, 120, 109, 108]), .bool true]) ∧ Below w.heap.size w w' := fun w => by
    have := item_any [47, 119, 111, 114, 100, 47, 100, 111, 99, 117, 109, 101, 110, 116, 46, 120, 109, 108] w (by decide)
    rw [v_item] at this; exact this
  have c3 : ∀ w, Calls Tryd.prog 12 #[.string ⟨#[97, 47, 98]⟩] w fun e w' => e = .returned (.tuple #[.string (str [47, 97, 47, 98]), .bool true]) ∧ Below w.heap.size w w' := fun w => by
    have := part_any [97, 47, 98] w (by decide)
    rw [v_part] at this; exact this
  have c4 : ∀ w, Calls Tryd.prog 12 #[.string ⟨#[91, 67, 111, 110, 116, 101, 110, 116, 95, 84, 121, 112, 101, 115, 93, 46, 120, 109, 108]⟩] w fun e w' => e = .returned (.tuple #[.string (str []), .bool false]) ∧ Below w.heap.size w w' := fun w => by
    have := part_any [91, 67, 111, 110, 116, 101, 110, 116, 95, 84, 121, 112, 101, 115, 93, 46, 120, 109, 108] w (by decide)
    rw [v_no] at this; exact this
  have c5 : ∀ w, Calls Tryd.prog 14 #[.string ⟨#[47, 97, 47, 98, 46, 99]⟩] w fun e w' => e = .returned (.tuple #[.string (str [47, 97, 47]), .string (str [98, 46, 99])]) ∧ Below w.heap.size w w' := fun w => by
    have := split_any [47, 97, 47, 98, 46, 99] w (by decide)
    rw [v_split] at this; exact this
  have c6 : ∀ w, Calls Tryd.prog 9 #[.string ⟨#[47, 97, 47, 98, 46, 120, 109, 108]⟩] w fun e w' => e = .returned (.bool true) ∧ Below w.heap.size w w' := fun w => by
    have := right_any [47, 97, 47, 98, 46, 120, 109, 108] w (by decide)
    rw [v_r1] at this; exact this
  have c7 : ∀ w, Calls Tryd.prog 9 #[.string ⟨#[47, 97, 47]⟩] w fun e w' => e = .returned (.bool false) ∧ Below w.heap.size w w' := fun w => by
    have := right_any [47, 97, 47] w (by decide)
    rw [v_r2] at this; exact this
  have c8 : ∀ w, Calls Tryd.prog 9 #[.string ⟨#[47, 97, 46]⟩] w fun e w' => e = .returned (.bool false) ∧ Below w.heap.size w w' := fun w => by
    have := right_any [47, 97, 46] w (by decide)
    rw [v_r3] at this; exact this
  have c9 : ∀ w, Calls Tryd.prog 10 #[.string ⟨#[47, 65]⟩, .string ⟨#[47, 97]⟩] w fun e w' => e = .returned (.bool true) ∧ Below w.heap.size w w' := fun w => by
    have := like_any [47, 65] [47, 97] w (by decide) (by decide)
    rw [v_like] at this; exact this
  have c10 : ∀ w, Calls Tryd.prog 22 #[.string ⟨#[47, 97]⟩, .string ⟨#[47, 65, 47, 98]⟩] w fun e w' => e = .returned (.bool true) ∧ Below w.heap.size w w' := fun w => by
    have := clash_any [47, 97] [47, 65, 47, 98] w (by decide) (by decide)
    rw [v_c1] at this; exact this
  have c11 : ∀ w, Calls Tryd.prog 22 #[.string ⟨#[47, 97]⟩, .string ⟨#[47, 97, 98]⟩] w fun e w' => e = .returned (.bool false) ∧ Below w.heap.size w w' := fun w => by
    have := clash_any [47, 97] [47, 97, 98] w (by decide) (by decide)
    rw [v_c2] at this; exact this
  have c12 : ∀ w, Calls Tryd.prog 20 #[.string ⟨#[47, 97, 47, 98, 46, 88, 77, 76]⟩] w fun e w' => e = .returned (.string (str [120, 109, 108])) ∧ Below w.heap.size w w' := fun w => by
    have := ext_any [47, 97, 47, 98, 46, 88, 77, 76] w (by decide)
    rw [v_ext] at this; exact this
  have C1 := Lib.hid c1; have C2 := Lib.hid c2; have C3 := Lib.hid c3; have C4 := Lib.hid c4; have C5 := Lib.hid c5; have C6 := Lib.hid c6
  have C7 := Lib.hid c7; have C8 := Lib.hid c8; have C9 := Lib.hid c9; have C10 := Lib.hid c10; have C11 := Lib.hid c11; have C12 := Lib.hid c12
  clear c1 c2 c3 c4 c5 c6 c7 c8 c9 c10 c11 c12
  have HB0 : Hid (Below w.heap.size w w) := Lib.hid (Below.refl _ _)
  go_enter Tryd.func7, Tryd.ntmps7
  go_wp2_with fail
  refine (C1.out _).mono ?_
  rintro e w1 ⟨rfl, h1⟩
  have HB1 := Lib.hid (below_step HB0.out h1); clear h1
  go_wp2_with fail
  refine (C2.out _).mono ?_
  rintro e w2 ⟨rfl, h2⟩
  have HB2 := Lib.hid (below_step HB1.out h2); clear h2
  go_wp2_with fail
  refine (C3.out _).mono ?_
  rintro e w3 ⟨rfl, h3⟩
  have HB3 := Lib.hid (below_step HB2.out h3); clear h3
  go_wp2_with fail
  refine (C4.out _).mono ?_
  rintro e w4 ⟨rfl, h4⟩
  have HB4 := Lib.hid (below_step HB3.out h4); clear h4
  go_wp2_with fail
  refine (C5.out _).mono ?_
  rintro e w5 ⟨rfl, h5⟩
  have HB5 := Lib.hid (below_step HB4.out h5); clear h5
  go_wp2_with fail
  refine (C6.out _).mono ?_
  rintro e w6 ⟨rfl, h6⟩
  have HB6 := Lib.hid (below_step HB5.out h6); clear h6
  go_wp2_with fail
  refine (C7.out _).mono ?_
  rintro e w7 ⟨rfl, h7⟩
  have HB7 := Lib.hid (below_step HB6.out h7); clear h7
  go_wp2_with fail
  refine (C8.out _).mono ?_
  rintro e w8 ⟨rfl, h8⟩
  have HB8 := Lib.hid (below_step HB7.out h8); clear h8
  go_wp2_with fail
  refine (C9.out _).mono ?_
  rintro e w9 ⟨rfl, h9⟩
  have HB9 := Lib.hid (below_step HB8.out h9); clear h9
  go_wp2_with fail
  refine (C10.out _).mono ?_
  rintro e w10 ⟨rfl, h10⟩
  have HB10 := Lib.hid (below_step HB9.out h10); clear h10
  go_wp2_with fail
  refine (C11.out _).mono ?_
  rintro e w11 ⟨rfl, h11⟩
  have HB11 := Lib.hid (below_step HB10.out h11); clear h11
  go_wp2_with fail
  refine (C12.out _).mono ?_
  rintro e w12 ⟨rfl, h12⟩
  have HB12 := Lib.hid (below_step HB11.out h12); clear h12
  go_wp2_with fail
  go_ret
  exact ⟨rfl, HB12.out⟩
end Go.Proofs.YthedhominhgeaaaDoor
