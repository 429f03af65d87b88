/- A right name is its own normal one, but for letters behind %; an item's name comes back as the part's: the walk of the law. -/
import Derived.Test.YthedhominhgeaaaDoorFault
namespace Go.Proofs.YthedhominhgeaaaDoor
open Go.RowKit
set_option linter.unusedVariables false
attribute [local go_sem] nat_byt str_size str_get str_from str_to str_list lit_list str_add

set_option maxHeartbeats 4000000 in
theorem lawB_in (s : List UInt8) (w : World) (hs : s.length ≤ 1000) (hT : Tab2 w) :
    Calls Tryd.prog 3 #[.string (str s)] w fun e w' => e = .returned (.bool true) ∧ Below w.heap.size w w' := by
  have HA := Lib.hid (alive_any w)
  have NS := Lib.hid (fun w => normal_any s w (by omega))
  have RS := Lib.hid (fun w => right_any s w (by omega))
  have i1 : ¬ (1000 : Int) < (s.length : Int) := by omega
  have HB0 : Hid (Below w.heap.size w w) := Lib.hid (Below.refl _ _)
  unfold normalV at NS
  have hnn := norm_twice s
  cases hN : rightB (normL s) with
  | false =>
    have hR : rightB s = false := by
      cases h : rightB s with
      | false => rfl
      | true => rw [(right_norm h).1] at hN; cases hN
    rw [hN] at NS
    rw [hR] at RS
    have NS2 : Hid (∀ w, Calls Tryd.prog 8 #[.string (str s)] w fun e w' => e = .returned (.tuple #[.string (str []), .bool false]) ∧ Below w.heap.size w w') := NS
    clear hnn hN hR NS
    go_enter Tryd.func3, Tryd.ntmps3
    go_wp2_with fail
    refine HA.out.mono ?_
    rintro e w1 ⟨rfl, h⟩
    have HB1 := Lib.hid (below_step HB0.out h); clear h
    go_wp2_with fail
    refine (NS2.out _).mono ?_
    rintro e w2 ⟨rfl, h⟩
    have HB2 := Lib.hid (below_step HB1.out h); clear h
    go_wp2_with fail
    refine (RS.out _).mono ?_
    rintro e w3 ⟨rfl, h⟩
    have HB3 := Lib.hid (below_step HB2.out h); clear h
    go_wp2_with fail
    go_ret
    exact ⟨rfl, HB3.out⟩
  | true =>
    have hlen := right_len hN
    have hlast := right_last hN
    have hlike : rightB s = true → (foldL (normL s) == foldL s) = true := fun h => by rw [(right_norm h).2]; simp
    have NN := Lib.hid (fun w => normal_any (normL s) w (by omega))
    unfold normalV at NN
    rw [hnn, hN] at NN
    rw [hN] at NS
    have SN := Lib.hid (fun w => split_any (normL s) w (by omega))
    have RN := Lib.hid (fun w => right_any (normL s) w (by omega))
    rw [hN] at RN
    have LK := Lib.hid (fun w => like_any (normL s) s w (by omega) (by omega))
    have HLK := Lib.hid hlike
    clear hnn hN hlike
    generalize normL s = N at *
    generalize lastP N 47 = p at *
    have NS2 : Hid (∀ w, Calls Tryd.prog 8 #[.string (str s)] w fun e w' => e = .returned (.tuple #[.string (str N), .bool true]) ∧ Below w.heap.size w w') := NS
    have NN2 : Hid (∀ w, Calls Tryd.prog 8 #[.string (str N)] w fun e w' => e = .returned (.tuple #[.string (str N), .bool true]) ∧ Below w.heap.size w w') := NN
    have hb : (N.drop p == []) = false := by
      rw [beq_eq_false_iff_ne]
      intro e
      have := congrArg List.length e
      rw [List.length_drop] at this
      simp at this; omega
    obtain ⟨X, hX⟩ : ∃ X, X = N.take p := ⟨_, rfl⟩
    obtain ⟨Y, hY⟩ : ∃ Y, Y = N.drop p := ⟨_, rfl⟩
    have hXY : (X ++ Y == N) = true := by rw [hX, hY, List.take_append_drop]; simp
    have hxl : X.length ≤ 255 := by rw [hX, List.length_take]; omega
    have hyl : Y.length ≤ 255 := by rw [hY, List.length_drop]; omega
    rw [← hX, ← hY] at SN
    rw [← hY] at hb
    clear hX hY NS NN hlast
    cases hR : rightB s with
    | false =>
      rw [hR] at RS
      clear hR HLK
      go_enter Tryd.func3, Tryd.ntmps3
      go_wp2_with fail
      refine HA.out.mono ?_
      rintro e w1 ⟨rfl, h⟩
      have HB1 := Lib.hid (below_step HB0.out h); clear h
      go_wp2_with fail
      refine (NS2.out _).mono ?_
      rintro e w2 ⟨rfl, h⟩
      have HB2 := Lib.hid (below_step HB1.out h); clear h
      go_wp2_with fail
      refine (RS.out _).mono ?_
      rintro e w3 ⟨rfl, h⟩
      have HB3 := Lib.hid (below_step HB2.out h); clear h
      go_wp2_with fail
      refine (NN2.out _).mono ?_
      rintro e w4 ⟨rfl, h⟩
      have HB4 := Lib.hid (below_step HB3.out h); clear h
      go_wp2_with fail
      refine (SN.out _).mono ?_
      rintro e w5 ⟨rfl, h⟩
      have HB5 := Lib.hid (below_step HB4.out h); clear h
      go_wp2_with fail
      refine (RN.out _).mono ?_
      rintro e w6 ⟨rfl, h⟩
      have HB6 := Lib.hid (below_step HB5.out h); clear h
      go_wp2_with fail
      go_ret
      exact ⟨rfl, HB6.out⟩
    | true =>
      have hk := HLK.out hR
      rw [hk] at LK
      obtain ⟨r, hr⟩ := right_head hR
      have IT := Lib.hid (fun w => item_any s w (by omega))
      have PT := Lib.hid (fun w => part_any r w (by rw [hr] at hs; simp at hs; omega))
      have FT := Lib.hid (fun w hT => fault_right r w (by rw [← hr]; exact hR) hT)
      rw [hR] at IT RS
      rw [← hr, hR] at PT
      have htl : s.tail = r := by rw [hr]; rfl
      have IT2 : Hid (∀ w, Calls Tryd.prog 11 #[.string (str s)] w fun e w' => e = .returned (.tuple #[.string (str r), .bool true]) ∧ Below w.heap.size w w') := by rw [← htl]; exact IT
      have PT2 : Hid (∀ w, Calls Tryd.prog 12 #[.string (str r)] w fun e w' => e = .returned (.tuple #[.string (str s), .bool true]) ∧ Below w.heap.size w w') := PT
      clear hk hR HLK hr htl IT PT
      go_enter Tryd.func3, Tryd.ntmps3
      go_wp2_with fail
      refine HA.out.mono ?_
      rintro e w1 ⟨rfl, h⟩
      have HB1 := Lib.hid (below_step HB0.out h); clear h
      go_wp2_with fail
      refine (NS2.out _).mono ?_
      rintro e w2 ⟨rfl, h⟩
      have HB2 := Lib.hid (below_step HB1.out h); clear h
      go_wp2_with fail
      refine (RS.out _).mono ?_
      rintro e w3 ⟨rfl, h⟩
      have HB3 := Lib.hid (below_step HB2.out h); clear h
      go_wp2_with fail
      refine (LK.out _).mono ?_
      rintro e w4 ⟨rfl, h⟩
      have HB4 := Lib.hid (below_step HB3.out h); clear h
      go_wp2_with fail
      refine (IT2.out _).mono ?_
      rintro e w5 ⟨rfl, h⟩
      have HB5 := Lib.hid (below_step HB4.out h); clear h
      go_wp2_with fail
      refine (PT2.out _).mono ?_
      rintro e w6 ⟨rfl, h⟩
      have HB6 := Lib.hid (below_step HB5.out h); clear h
      go_wp2_with fail
      refine (FT.out _ (hT.below HB6.out)).mono ?_
      rintro e w7 ⟨rfl, h⟩
      have HB7 := Lib.hid (below_step HB6.out h); clear h
      go_wp2_with fail
      refine (NN2.out _).mono ?_
      rintro e w8 ⟨rfl, h⟩
      have HB8 := Lib.hid (below_step HB7.out h); clear h
      go_wp2_with fail
      refine (SN.out _).mono ?_
      rintro e w9 ⟨rfl, h⟩
      have HB9 := Lib.hid (below_step HB8.out h); clear h
      go_wp2_with fail
      refine (RN.out _).mono ?_
      rintro e w10 ⟨rfl, h⟩
      have HB10 := Lib.hid (below_step HB9.out h); clear h
      go_wp2_with fail
      go_ret
      exact ⟨rfl, HB10.out⟩
theorem lawB (s0 : ByteArray) (w : World) (h0 : s0.size ≤ 9223372036854775807) (hT : Tab2 w) :
    Calls Tryd.prog 3 #[.string s0] w fun e w' => e = .returned (.bool true) ∧ Below w.heap.size w w' := by
  rw [← str_of s0]
  have e0 := Lib.size_eq s0
  generalize s0.data.toList = a at *
  rw [e0] at h0
  clear e0
  have HA := Lib.hid (alive_any w)
  by_cases ha : 1000 < a.length
  · have i1 : (1000 : Int) < (a.length : Int) := by omega
    go_enter Tryd.func3, Tryd.ntmps3
    go_wp2_with fail
    refine HA.out.mono ?_
    rintro e w1 ⟨rfl, h⟩
    go_wp2_with fail
    go_ret
    exact ⟨rfl, h⟩
  exact lawB_in a w (by omega) hT
end Go.Proofs.YthedhominhgeaaaDoor
