/- Every call answers as the document's answer: the walk of the law. -/
import Derived.Test.YthedhominhgeaaaDoorRefN
import Derived.Test.YthedhominhgeaaaDoorAlive
import Derived.Test.YthedhominhgeaaaDoorTabs
namespace Go.Proofs.YthedhominhgeaaaDoor
open Go.RowKit
set_option linter.unusedVariables false
attribute [local go_sem] nat_byt str_size str_get str_from str_to str_list lit_list str_add lit_nil lit_slash

theorem normal_form (l : List UInt8) : ∃ (n : List UInt8) (b : Bool), normalV l = .tuple #[.string (str n), .bool b] := by
  unfold normalV
  cases rightB (normL l) with
  | true => exact ⟨_, _, rfl⟩
  | false => exact ⟨_, _, rfl⟩
set_option maxRecDepth 100000 in
set_option maxHeartbeats 4000000 in
theorem lawA_in (s : List UInt8) (w : World) (hs : s.length ≤ 1000) : Calls Tryd.prog 4 #[.string (str s)] w fun e w' => e = .returned (.bool true) ∧ Below w.heap.size w w' := by
  have HA := Lib.hid (alive_any w)
  have i1 : ¬ (1000 : Int) < (s.length : Int) := by omega
  have HB0 : Hid (Below w.heap.size w w) := Lib.hid (Below.refl _ _)
  obtain ⟨n, nb, hn⟩ := normal_form s
  have NS := Lib.hid (fun w => normal_any s w (by omega))
  have NR := Lib.hid (fun w => refNormal_any s w (by omega))
  rw [hn] at NS NR
  clear hn
  have RR := Lib.hid (fun w => refRight_any s w (by omega))
  have RS := Lib.hid (fun w => right_any s w (by omega))
  have RP := Lib.hid (fun w => refRight_any (47 :: s) w (by simp; omega))
  have IT := Lib.hid (fun w => item_any s w (by omega))
  have PT := Lib.hid (fun w => part_any s w (by omega))
  have SP := Lib.hid (fun w => split_any s w (by omega))
  have SL := Lib.hid (fun w => refSlash_any s w (by omega))
  have FA := Lib.hid (fun w => fold_any s w (by omega))
  have FB := Lib.hid (fun w => refFold_any s w (by omega))
  have EA := Lib.hid (fun w => ext_any s w (by omega))
  have EB := Lib.hid (fun w => refExt_any s w (by omega))
  have hle := lastP_le s 47
  have hlen : rightB s = true → (1 : Int) ≤ (s.length : Int) := fun h => by have := right_len h; omega
  generalize foldL s = F at *
  generalize extL s = E at *
  generalize lastP s 47 = p at *
  have j1 : ((p : Int) - 1) + 1 = (p : Int) := by omega
  have j2 : (p : Int) ≤ (s.length : Int) := by omega
  have j3 : (0 : Int) ≤ (p : Int) := by omega
  generalize rightB s = a at *
  generalize rightB (47 :: s) = b at *
  cases a with
  | true =>
    have l1 := hlen rfl
    clear hlen
    have IT2 : Hid (∀ w, Calls Tryd.prog 11 #[.string (str s)] w fun e w' => e = .returned (.tuple #[.string (str s.tail), .bool true]) ∧ Below w.heap.size w w') := IT
    clear IT
    cases b with
    | true =>
      have PT2 : Hid (∀ w, Calls Tryd.prog 12 #[.string (str s)] w fun e w' => e = .returned (.tuple #[.string (str (47 :: s)), .bool true]) ∧ Below w.heap.size w w') := PT
      clear PT
      go_enter Tryd.func4, Tryd.ntmps4
      go_wp2_with fail
      refine (HA.out).mono ?_
      rintro e w1 ⟨rfl, h⟩
      have HB1 := Lib.hid (below_step HB0.out h); clear h
      go_wp2_with fail
      refine (RR.out _).mono ?_
      rintro e wx ⟨rfl, hww⟩
      subst hww
      go_wp2_with fail
      refine (IT2.out _).mono ?_
      rintro e w2 ⟨rfl, h⟩
      have HB2 := Lib.hid (below_step HB1.out h); clear h
      go_wp2_with fail
      refine (PT2.out _).mono ?_
      rintro e w3 ⟨rfl, h⟩
      have HB3 := Lib.hid (below_step HB2.out h); clear h
      go_wp2_with fail
      refine (SP.out _).mono ?_
      rintro e w4 ⟨rfl, h⟩
      have HB4 := Lib.hid (below_step HB3.out h); clear h
      go_wp2_with fail
      refine (NS.out _).mono ?_
      rintro e w5 ⟨rfl, h⟩
      have HB5 := Lib.hid (below_step HB4.out h); clear h
      go_wp2_with fail
      refine (NR.out _).mono ?_
      rintro e w6 ⟨rfl, h⟩
      have HB6 := Lib.hid (below_step HB5.out h); clear h
      go_wp2_with fail
      refine (SL.out _).mono ?_
      rintro e wx ⟨rfl, hww⟩
      subst hww
      go_wp2_with fail
      refine (RS.out _).mono ?_
      rintro e w7 ⟨rfl, h⟩
      have HB7 := Lib.hid (below_step HB6.out h); clear h
      go_wp2_with fail
      refine (FA.out _).mono ?_
      rintro e w8 ⟨rfl, h⟩
      have HB8 := Lib.hid (below_step HB7.out h); clear h
      go_wp2_with fail
      refine (FB.out _).mono ?_
      rintro e w9 ⟨rfl, h⟩
      have HB9 := Lib.hid (below_step HB8.out h); clear h
      go_wp2_with fail
      refine (EA.out _).mono ?_
      rintro e w10 ⟨rfl, h⟩
      have HB10 := Lib.hid (below_step HB9.out h); clear h
      go_wp2_with fail
      refine (EB.out _).mono ?_
      rintro e w11 ⟨rfl, h⟩
      have HB11 := Lib.hid (below_step HB10.out h); clear h
      go_wp2_with fail
      refine (RP.out _).mono ?_
      rintro e wx ⟨rfl, hww⟩
      subst hww
      go_wp2_with fail
      go_ret
      exact ⟨rfl, HB11.out⟩
    | false =>
      have PT2 : Hid (∀ w, Calls Tryd.prog 12 #[.string (str s)] w fun e w' => e = .returned (.tuple #[.string (str []), .bool false]) ∧ Below w.heap.size w w') := PT
      clear PT
      go_enter Tryd.func4, Tryd.ntmps4
      go_wp2_with fail
      refine (HA.out).mono ?_
      rintro e w1 ⟨rfl, h⟩
      have HB1 := Lib.hid (below_step HB0.out h); clear h
      go_wp2_with fail
      refine (RR.out _).mono ?_
      rintro e wx ⟨rfl, hww⟩
      subst hww
      go_wp2_with fail
      refine (IT2.out _).mono ?_
      rintro e w2 ⟨rfl, h⟩
      have HB2 := Lib.hid (below_step HB1.out h); clear h
      go_wp2_with fail
      refine (PT2.out _).mono ?_
      rintro e w3 ⟨rfl, h⟩
      have HB3 := Lib.hid (below_step HB2.out h); clear h
      go_wp2_with fail
      refine (SP.out _).mono ?_
      rintro e w4 ⟨rfl, h⟩
      have HB4 := Lib.hid (below_step HB3.out h); clear h
      go_wp2_with fail
      refine (NS.out _).mono ?_
      rintro e w5 ⟨rfl, h⟩
      have HB5 := Lib.hid (below_step HB4.out h); clear h
      go_wp2_with fail
      refine (NR.out _).mono ?_
      rintro e w6 ⟨rfl, h⟩
      have HB6 := Lib.hid (below_step HB5.out h); clear h
      go_wp2_with fail
      refine (SL.out _).mono ?_
      rintro e wx ⟨rfl, hww⟩
      subst hww
      go_wp2_with fail
      refine (RS.out _).mono ?_
      rintro e w7 ⟨rfl, h⟩
      have HB7 := Lib.hid (below_step HB6.out h); clear h
      go_wp2_with fail
      refine (FA.out _).mono ?_
      rintro e w8 ⟨rfl, h⟩
      have HB8 := Lib.hid (below_step HB7.out h); clear h
      go_wp2_with fail
      refine (FB.out _).mono ?_
      rintro e w9 ⟨rfl, h⟩
      have HB9 := Lib.hid (below_step HB8.out h); clear h
      go_wp2_with fail
      refine (EA.out _).mono ?_
      rintro e w10 ⟨rfl, h⟩
      have HB10 := Lib.hid (below_step HB9.out h); clear h
      go_wp2_with fail
      refine (EB.out _).mono ?_
      rintro e w11 ⟨rfl, h⟩
      have HB11 := Lib.hid (below_step HB10.out h); clear h
      go_wp2_with fail
      refine (RP.out _).mono ?_
      rintro e wx ⟨rfl, hww⟩
      subst hww
      go_wp2_with fail
      go_ret
      exact ⟨rfl, HB11.out⟩
  | false =>
    clear hlen
    have IT2 : Hid (∀ w, Calls Tryd.prog 11 #[.string (str s)] w fun e w' => e = .returned (.tuple #[.string (str []), .bool false]) ∧ Below w.heap.size w w') := IT
    clear IT
    cases b with
    | true =>
      have PT2 : Hid (∀ w, Calls Tryd.prog 12 #[.string (str s)] w fun e w' => e = .returned (.tuple #[.string (str (47 :: s)), .bool true]) ∧ Below w.heap.size w w') := PT
      clear PT
      go_enter Tryd.func4, Tryd.ntmps4
      go_wp2_with fail
      refine (HA.out).mono ?_
      rintro e w1 ⟨rfl, h⟩
      have HB1 := Lib.hid (below_step HB0.out h); clear h
      go_wp2_with fail
      refine (RR.out _).mono ?_
      rintro e wx ⟨rfl, hww⟩
      subst hww
      go_wp2_with fail
      refine (IT2.out _).mono ?_
      rintro e w2 ⟨rfl, h⟩
      have HB2 := Lib.hid (below_step HB1.out h); clear h
      go_wp2_with fail
      refine (PT2.out _).mono ?_
      rintro e w3 ⟨rfl, h⟩
      have HB3 := Lib.hid (below_step HB2.out h); clear h
      go_wp2_with fail
      refine (SP.out _).mono ?_
      rintro e w4 ⟨rfl, h⟩
      have HB4 := Lib.hid (below_step HB3.out h); clear h
      go_wp2_with fail
      refine (NS.out _).mono ?_
      rintro e w5 ⟨rfl, h⟩
      have HB5 := Lib.hid (below_step HB4.out h); clear h
      go_wp2_with fail
      refine (NR.out _).mono ?_
      rintro e w6 ⟨rfl, h⟩
      have HB6 := Lib.hid (below_step HB5.out h); clear h
      go_wp2_with fail
      refine (SL.out _).mono ?_
      rintro e wx ⟨rfl, hww⟩
      subst hww
      go_wp2_with fail
      refine (RS.out _).mono ?_
      rintro e w7 ⟨rfl, h⟩
      have HB7 := Lib.hid (below_step HB6.out h); clear h
      go_wp2_with fail
      refine (FA.out _).mono ?_
      rintro e w8 ⟨rfl, h⟩
      have HB8 := Lib.hid (below_step HB7.out h); clear h
      go_wp2_with fail
      refine (FB.out _).mono ?_
      rintro e w9 ⟨rfl, h⟩
      have HB9 := Lib.hid (below_step HB8.out h); clear h
      go_wp2_with fail
      refine (EA.out _).mono ?_
      rintro e w10 ⟨rfl, h⟩
      have HB10 := Lib.hid (below_step HB9.out h); clear h
      go_wp2_with fail
      refine (EB.out _).mono ?_
      rintro e w11 ⟨rfl, h⟩
      have HB11 := Lib.hid (below_step HB10.out h); clear h
      go_wp2_with fail
      refine (RP.out _).mono ?_
      rintro e wx ⟨rfl, hww⟩
      subst hww
      go_wp2_with fail
      go_ret
      exact ⟨rfl, HB11.out⟩
    | false =>
      have PT2 : Hid (∀ w, Calls Tryd.prog 12 #[.string (str s)] w fun e w' => e = .returned (.tuple #[.string (str []), .bool false]) ∧ Below w.heap.size w w') := PT
      clear PT
      go_enter Tryd.func4, Tryd.ntmps4
      go_wp2_with fail
      refine (HA.out).mono ?_
      rintro e w1 ⟨rfl, h⟩
      have HB1 := Lib.hid (below_step HB0.out h); clear h
      go_wp2_with fail
      refine (RR.out _).mono ?_
      rintro e wx ⟨rfl, hww⟩
      subst hww
      go_wp2_with fail
      refine (IT2.out _).mono ?_
      rintro e w2 ⟨rfl, h⟩
      have HB2 := Lib.hid (below_step HB1.out h); clear h
      go_wp2_with fail
      refine (PT2.out _).mono ?_
      rintro e w3 ⟨rfl, h⟩
      have HB3 := Lib.hid (below_step HB2.out h); clear h
      go_wp2_with fail
      refine (SP.out _).mono ?_
      rintro e w4 ⟨rfl, h⟩
      have HB4 := Lib.hid (below_step HB3.out h); clear h
      go_wp2_with fail
      refine (NS.out _).mono ?_
      rintro e w5 ⟨rfl, h⟩
      have HB5 := Lib.hid (below_step HB4.out h); clear h
      go_wp2_with fail
      refine (NR.out _).mono ?_
      rintro e w6 ⟨rfl, h⟩
      have HB6 := Lib.hid (below_step HB5.out h); clear h
      go_wp2_with fail
      refine (SL.out _).mono ?_
      rintro e wx ⟨rfl, hww⟩
      subst hww
      go_wp2_with fail
      refine (RS.out _).mono ?_
      rintro e w7 ⟨rfl, h⟩
      have HB7 := Lib.hid (below_step HB6.out h); clear h
      go_wp2_with fail
      refine (FA.out _).mono ?_
      rintro e w8 ⟨rfl, h⟩
      have HB8 := Lib.hid (below_step HB7.out h); clear h
      go_wp2_with fail
      refine (FB.out _).mono ?_
      rintro e w9 ⟨rfl, h⟩
      have HB9 := Lib.hid (below_step HB8.out h); clear h
      go_wp2_with fail
      refine (EA.out _).mono ?_
      rintro e w10 ⟨rfl, h⟩
      have HB10 := Lib.hid (below_step HB9.out h); clear h
      go_wp2_with fail
      refine (EB.out _).mono ?_
      rintro e w11 ⟨rfl, h⟩
      have HB11 := Lib.hid (below_step HB10.out h); clear h
      go_wp2_with fail
      refine (RP.out _).mono ?_
      rintro e wx ⟨rfl, hww⟩
      subst hww
      go_wp2_with fail
      go_ret
      exact ⟨rfl, HB11.out⟩
theorem lawA (s0 : ByteArray) (w : World) (h0 : s0.size ≤ 9223372036854775807) :
    Calls Tryd.prog 4 #[.string s0] w fun e w' => e = .returned (.bool true) ∧ Below w.heap.size w w' := by
  rw [← str_of s0]
  have e0 := Lib.size_eq s0
  generalize s0.data.toList = a at *
  rw [e0] at h0
  clear e0
  have HA := Lib.hid (alive_any w)
  by_cases ha : 1000 < a.length
  · have i1 : (1000 : Int) < (a.length : Int) := by omega
    go_enter Tryd.func4, Tryd.ntmps4
    go_wp2_with fail
    refine HA.out.mono ?_
    rintro e w1 ⟨rfl, h⟩
    go_wp2_with fail
    go_ret
    exact ⟨rfl, h⟩
  exact lawA_in a w (by omega)
end Go.Proofs.YthedhominhgeaaaDoor
