/- Like and Clash are what the document says; both hang on no order: the walk of the law. -/
import Derived.Test.YthedhominhgeaaaDoorRefC
import Derived.Test.YthedhominhgeaaaDoorTabs
namespace Go.Proofs.YthedhominhgeaaaDoor
open Go.RowKit
set_option linter.unusedVariables false
attribute [local go_sem] nat_byt str_size str_get str_from str_to str_list lit_list str_add

theorem like_sym (a b : List UInt8) : (foldL b == foldL a) = (foldL a == foldL b) := by
  by_cases h : foldL a = foldL b
  · rw [h]
  · rw [beq_eq_false_iff_ne.2 h, beq_eq_false_iff_ne.2 (Ne.symm h)]
theorem clash_sym (a b : List UInt8) : clashB b a = clashB a b := by
  unfold clashB
  rw [like_sym a b, Bool.or_assoc, Bool.or_assoc, Bool.or_comm (List.isPrefixOf (foldL b ++ [47]) (foldL a))]
theorem clash_more (a : List UInt8) : clashB a (a ++ [47, 120]) = true := by
  have h : foldL (a ++ [47, 120]) = foldL a ++ [47] ++ [120] := by
    unfold foldL; rw [List.map_append, List.append_assoc]; congr 1
  unfold clashB
  rw [h]
  have : List.isPrefixOf (foldL a ++ [47]) (foldL a ++ [47] ++ [120]) = true := by
    rw [List.isPrefixOf_iff_prefix]; exact List.prefix_append _ _
  rw [this, Bool.or_true, Bool.true_or]
theorem lit_x : (⟨#[47, 120]⟩ : ByteArray) = str [47, 120] := rfl
attribute [local go_sem] lit_x

set_option maxHeartbeats 4000000 in
theorem lawC_in (a b : List UInt8) (w : World) (ha : a.length ≤ 1000) (hb : b.length ≤ 1000) :
    Calls Tryd.prog 5 #[.string (str a), .string (str b)] w fun e w' => e = .returned (.bool true) ∧ Below w.heap.size w w' := by
  have HA := Lib.hid (alive_any w)
  have LAB := Lib.hid (fun w => like_any a b w (by omega) (by omega))
  have LBA := Lib.hid (fun w => like_any b a w (by omega) (by omega))
  have CAB := Lib.hid (fun w => clash_any a b w (by omega) (by omega))
  have CBA := Lib.hid (fun w => clash_any b a w (by omega) (by omega))
  have CX := Lib.hid (fun w => clash_any a (a ++ [47, 120]) w (by omega) (by rw [List.length_append]; simp; omega))
  rw [clash_more] at CX
  rw [like_sym] at LBA
  rw [clash_sym] at CBA
  have FA := Lib.hid (fun w => refFold_any a w (by omega))
  have FB := Lib.hid (fun w => refFold_any b w (by omega))
  have RC := Lib.hid (fun w => refClash_any a b w (by omega) (by omega))
  have i1 : ¬ (1000 : Int) < (a.length : Int) := by omega
  have i2 : ¬ (1000 : Int) < (b.length : Int) := by omega
  have HB0 : Hid (Below w.heap.size w w) := Lib.hid (Below.refl _ _)
  cases hp : foldL a == foldL b with
  | true =>
    have hq : clashB a b = true := by unfold clashB; rw [hp]; rfl
    rw [hp] at LAB LBA
    rw [hq] at CAB CBA RC
    clear hq
    go_enter Tryd.func5, Tryd.ntmps5
    go_wp2_with fail
    refine HA.out.mono ?_
    rintro e w1 ⟨rfl, h⟩
    have HB1 := Lib.hid (below_step HB0.out h); clear h
    go_wp2_with fail
    refine (LAB.out _).mono ?_
    rintro e w2 ⟨rfl, h⟩
    have HB2 := Lib.hid (below_step HB1.out h); clear h
    go_wp2_with fail
    refine (CAB.out _).mono ?_
    rintro e w3 ⟨rfl, h⟩
    have HB3 := Lib.hid (below_step HB2.out h); clear h
    go_wp2_with fail
    refine (FA.out _).mono ?_
    rintro e w4 ⟨rfl, h⟩
    have HB4 := Lib.hid (below_step HB3.out h); clear h
    go_wp2_with fail
    refine (FB.out _).mono ?_
    rintro e w5 ⟨rfl, h⟩
    have HB5 := Lib.hid (below_step HB4.out h); clear h
    go_wp2_with fail
    refine (RC.out _).mono ?_
    rintro e w6 ⟨rfl, h⟩
    have HB6 := Lib.hid (below_step HB5.out h); clear h
    go_wp2_with fail
    refine (LBA.out _).mono ?_
    rintro e w7 ⟨rfl, h⟩
    have HB7 := Lib.hid (below_step HB6.out h); clear h
    go_wp2_with fail
    refine (CBA.out _).mono ?_
    rintro e w8 ⟨rfl, h⟩
    have HB8 := Lib.hid (below_step HB7.out h); clear h
    go_wp2_with fail
    refine (CX.out _).mono ?_
    rintro e w9 ⟨rfl, h⟩
    have HB9 := Lib.hid (below_step HB8.out h); clear h
    go_wp2_with fail
    go_ret
    exact ⟨rfl, HB9.out⟩
  | false =>
    rw [hp] at LAB LBA
    cases hq : clashB a b with
    | true =>
      rw [hq] at CAB CBA RC
      clear hq
      go_enter Tryd.func5, Tryd.ntmps5
      go_wp2_with fail
      refine HA.out.mono ?_
      rintro e w1 ⟨rfl, h⟩
      have HB1 := Lib.hid (below_step HB0.out h); clear h
      go_wp2_with fail
      refine (LAB.out _).mono ?_
      rintro e w2 ⟨rfl, h⟩
      have HB2 := Lib.hid (below_step HB1.out h); clear h
      go_wp2_with fail
      refine (CAB.out _).mono ?_
      rintro e w3 ⟨rfl, h⟩
      have HB3 := Lib.hid (below_step HB2.out h); clear h
      go_wp2_with fail
      refine (FA.out _).mono ?_
      rintro e w4 ⟨rfl, h⟩
      have HB4 := Lib.hid (below_step HB3.out h); clear h
      go_wp2_with fail
      refine (FB.out _).mono ?_
      rintro e w5 ⟨rfl, h⟩
      have HB5 := Lib.hid (below_step HB4.out h); clear h
      go_wp2_with fail
      refine (RC.out _).mono ?_
      rintro e w6 ⟨rfl, h⟩
      have HB6 := Lib.hid (below_step HB5.out h); clear h
      go_wp2_with fail
      refine (LBA.out _).mono ?_
      rintro e w7 ⟨rfl, h⟩
      have HB7 := Lib.hid (below_step HB6.out h); clear h
      go_wp2_with fail
      refine (CBA.out _).mono ?_
      rintro e w8 ⟨rfl, h⟩
      have HB8 := Lib.hid (below_step HB7.out h); clear h
      go_wp2_with fail
      refine (CX.out _).mono ?_
      rintro e w9 ⟨rfl, h⟩
      have HB9 := Lib.hid (below_step HB8.out h); clear h
      go_wp2_with fail
      go_ret
      exact ⟨rfl, HB9.out⟩
    | false =>
      rw [hq] at CAB CBA RC
      clear hq
      go_enter Tryd.func5, Tryd.ntmps5
      go_wp2_with fail
      refine HA.out.mono ?_
      rintro e w1 ⟨rfl, h⟩
      have HB1 := Lib.hid (below_step HB0.out h); clear h
      go_wp2_with fail
      refine (LAB.out _).mono ?_
      rintro e w2 ⟨rfl, h⟩
      have HB2 := Lib.hid (below_step HB1.out h); clear h
      go_wp2_with fail
      refine (CAB.out _).mono ?_
      rintro e w3 ⟨rfl, h⟩
      have HB3 := Lib.hid (below_step HB2.out h); clear h
      go_wp2_with fail
      refine (FA.out _).mono ?_
      rintro e w4 ⟨rfl, h⟩
      have HB4 := Lib.hid (below_step HB3.out h); clear h
      go_wp2_with fail
      refine (FB.out _).mono ?_
      rintro e w5 ⟨rfl, h⟩
      have HB5 := Lib.hid (below_step HB4.out h); clear h
      go_wp2_with fail
      refine (RC.out _).mono ?_
      rintro e w6 ⟨rfl, h⟩
      have HB6 := Lib.hid (below_step HB5.out h); clear h
      go_wp2_with fail
      refine (LBA.out _).mono ?_
      rintro e w7 ⟨rfl, h⟩
      have HB7 := Lib.hid (below_step HB6.out h); clear h
      go_wp2_with fail
      refine (CBA.out _).mono ?_
      rintro e w8 ⟨rfl, h⟩
      have HB8 := Lib.hid (below_step HB7.out h); clear h
      go_wp2_with fail
      refine (CX.out _).mono ?_
      rintro e w9 ⟨rfl, h⟩
      have HB9 := Lib.hid (below_step HB8.out h); clear h
      go_wp2_with fail
      go_ret
      exact ⟨rfl, HB9.out⟩
theorem lawC (s0 s1 : ByteArray) (w : World) (h0 : s0.size ≤ 9223372036854775807) (h1 : s1.size ≤ 9223372036854775807) :
    Calls Tryd.prog 5 #[.string s0, .string s1] w fun e w' => e = .returned (.bool true) ∧ Below w.heap.size w w' := by
  rw [← str_of s0, ← str_of s1]
  have e0 := Lib.size_eq s0; have e1 := Lib.size_eq s1
  generalize s0.data.toList = a at *
  generalize s1.data.toList = b at *
  rw [e0] at h0; rw [e1] at h1
  clear e0 e1
  have HA := Lib.hid (alive_any w)
  by_cases ha : 1000 < a.length
  · have i1 : (1000 : Int) < (a.length : Int) := by omega
    go_enter Tryd.func5, Tryd.ntmps5
    go_wp2_with fail
    refine HA.out.mono ?_
    rintro e w1 ⟨rfl, h⟩
    go_wp2_with fail
    go_ret
    exact ⟨rfl, h⟩
  by_cases hb : 1000 < b.length
  · have i1 : ¬ (1000 : Int) < (a.length : Int) := by omega
    have i2 : (1000 : Int) < (b.length : Int) := by omega
    go_enter Tryd.func5, Tryd.ntmps5
    go_wp2_with fail
    refine HA.out.mono ?_
    rintro e w1 ⟨rfl, h⟩
    go_wp2_with fail
    go_ret
    exact ⟨rfl, h⟩
  exact lawC_in a b w (by omega) (by omega)
end Go.Proofs.YthedhominhgeaaaDoor
