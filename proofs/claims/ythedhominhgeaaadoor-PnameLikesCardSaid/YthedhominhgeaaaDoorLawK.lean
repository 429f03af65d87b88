/- To be like goes on; of like names all is like: the walk of the law. -/
import Derived.Test.YthedhominhgeaaaDoorPl
import Derived.Test.YthedhominhgeaaaDoorTabs
namespace Go.Proofs.YthedhominhgeaaaDoor
open Go.RowKit
set_option linter.unusedVariables false
attribute [local go_sem] nat_byt str_size str_get str_from str_to str_list lit_list

set_option maxHeartbeats 4000000 in
theorem lawK_in (a b c : List UInt8) (w : World) (ha : a.length ≤ 1000) (hb : b.length ≤ 1000) (hc : c.length ≤ 1000) :
    Calls Tryd.prog 6 #[.string (str a), .string (str b), .string (str c)] w fun e w' => e = .returned (.bool true) ∧ Below w.heap.size w w' := by
  have HA := Lib.hid (alive_any w)
  have LAB := Lib.hid (fun w => like_any a b w (by omega) (by omega))
  have LBC := Lib.hid (fun w => like_any b c w (by omega) (by omega))
  have LAC := Lib.hid (fun w => like_any a c w (by omega) (by omega))
  have LAF := Lib.hid (fun w => like_any a (foldL a) w (by omega) (by rw [foldL_len]; omega))
  rw [foldL_twice] at LAF
  have FA := Lib.hid (fun w => fold_any a w (by omega))
  have FB := Lib.hid (fun w => fold_any b w (by omega))
  have FFA := Lib.hid (fun w => fold_any (foldL a) w (by rw [foldL_len]; omega))
  rw [foldL_twice] at FFA
  have EA := Lib.hid (fun w => ext_any a w (by omega))
  have EB := Lib.hid (fun w => ext_any b w (by omega))
  have CA := Lib.hid (fun w => clash_any a c w (by omega) (by omega))
  have CB := Lib.hid (fun w => clash_any b c w (by omega) (by omega))
  have i1 : ¬ (1000 : Int) < (a.length : Int) := by omega
  have i2 : ¬ (1000 : Int) < (b.length : Int) := by omega
  have i3 : ¬ (1000 : Int) < (c.length : Int) := by omega
  have HTR : Hid (foldL a = foldL b → foldL b = foldL c → (foldL a == foldL c) = true) := Lib.hid (fun h k => by rw [h, k]; simp)
  have hself : (foldL a == foldL a) = true := by simp
  rw [hself] at LAF
  have HB0 : Hid (Below w.heap.size w w) := Lib.hid (Below.refl _ _)
  cases hab : foldL a == foldL b with
  | false =>
    rw [hab] at LAB
    clear hab HTR
    go_enter Tryd.func6, Tryd.ntmps6
    go_wp2_with fail
    refine HA.out.mono ?_
    rintro e w1 ⟨rfl, h⟩
    have HB1 := Lib.hid (below_step HB0.out h); clear h
    go_wp2_with fail
    refine (LAB.out _).mono ?_
    rintro e w2 ⟨rfl, h⟩
    have HB2 := Lib.hid (below_step HB1.out h); clear h
    go_wp2_with fail
    refine (FA.out _).mono ?_
    rintro e w3 ⟨rfl, h⟩
    have HB3 := Lib.hid (below_step HB2.out h); clear h
    go_wp2_with fail
    refine (LAF.out _).mono ?_
    rintro e w4 ⟨rfl, h⟩
    have HB4 := Lib.hid (below_step HB3.out h); clear h
    go_wp2_with fail
    refine (FA.out _).mono ?_
    rintro e w5 ⟨rfl, h⟩
    have HB5 := Lib.hid (below_step HB4.out h); clear h
    go_wp2_with fail
    refine (FFA.out _).mono ?_
    rintro e w6 ⟨rfl, h⟩
    have HB6 := Lib.hid (below_step HB5.out h); clear h
    go_wp2_with fail
    refine (FA.out _).mono ?_
    rintro e w7 ⟨rfl, h⟩
    have HB7 := Lib.hid (below_step HB6.out h); clear h
    go_wp2_with fail
    refine (LAB.out _).mono ?_
    rintro e w8 ⟨rfl, h⟩
    have HB8 := Lib.hid (below_step HB7.out h); clear h
    go_wp2_with fail
    go_ret
    exact ⟨rfl, HB8.out⟩
  | true =>
    rw [hab] at LAB
    have hE : foldL a = foldL b := by simpa using hab
    rw [← ext_fold hE] at EB
    rw [← clash_fold c hE] at CB
    rw [← hE] at FB
    have hlen : b.length = a.length := (len_fold hE).symm
    have HT2 := Lib.hid (HTR.out hE)
    cases hbc : foldL b == foldL c with
    | false =>
      rw [hbc] at LBC
      clear hab hbc HTR hE HT2
      go_enter Tryd.func6, Tryd.ntmps6
      go_wp2_with fail
      refine HA.out.mono ?_
      rintro e w1 ⟨rfl, h⟩
      have HB1 := Lib.hid (below_step HB0.out h); clear h
      go_wp2_with fail
      refine (LAB.out _).mono ?_
      rintro e w2 ⟨rfl, h⟩
      have HB2 := Lib.hid (below_step HB1.out h); clear h
      go_wp2_with fail
      refine (LBC.out _).mono ?_
      rintro e w3 ⟨rfl, h⟩
      have HB3 := Lib.hid (below_step HB2.out h); clear h
      go_wp2_with fail
      refine (FA.out _).mono ?_
      rintro e w4 ⟨rfl, h⟩
      have HB4 := Lib.hid (below_step HB3.out h); clear h
      go_wp2_with fail
      refine (LAF.out _).mono ?_
      rintro e w5 ⟨rfl, h⟩
      have HB5 := Lib.hid (below_step HB4.out h); clear h
      go_wp2_with fail
      refine (FA.out _).mono ?_
      rintro e w6 ⟨rfl, h⟩
      have HB6 := Lib.hid (below_step HB5.out h); clear h
      go_wp2_with fail
      refine (FFA.out _).mono ?_
      rintro e w7 ⟨rfl, h⟩
      have HB7 := Lib.hid (below_step HB6.out h); clear h
      go_wp2_with fail
      refine (FA.out _).mono ?_
      rintro e w8 ⟨rfl, h⟩
      have HB8 := Lib.hid (below_step HB7.out h); clear h
      go_wp2_with fail
      refine (LAB.out _).mono ?_
      rintro e w9 ⟨rfl, h⟩
      have HB9 := Lib.hid (below_step HB8.out h); clear h
      go_wp2_with fail
      refine (FA.out _).mono ?_
      rintro e w10 ⟨rfl, h⟩
      have HB10 := Lib.hid (below_step HB9.out h); clear h
      go_wp2_with fail
      refine (FB.out _).mono ?_
      rintro e w11 ⟨rfl, h⟩
      have HB11 := Lib.hid (below_step HB10.out h); clear h
      go_wp2_with fail
      refine (EA.out _).mono ?_
      rintro e w12 ⟨rfl, h⟩
      have HB12 := Lib.hid (below_step HB11.out h); clear h
      go_wp2_with fail
      refine (EB.out _).mono ?_
      rintro e w13 ⟨rfl, h⟩
      have HB13 := Lib.hid (below_step HB12.out h); clear h
      go_wp2_with fail
      refine (CA.out _).mono ?_
      rintro e w14 ⟨rfl, h⟩
      have HB14 := Lib.hid (below_step HB13.out h); clear h
      go_wp2_with fail
      refine (CB.out _).mono ?_
      rintro e w15 ⟨rfl, h⟩
      have HB15 := Lib.hid (below_step HB14.out h); clear h
      go_wp2_with fail
      go_ret
      exact ⟨rfl, HB15.out⟩
    | true =>
      have hac := HT2.out (by simpa using hbc)
      rw [hbc] at LBC
      rw [hac] at LAC
      clear hab hbc HTR hE HT2 hac
      go_enter Tryd.func6, Tryd.ntmps6
      go_wp2_with fail
      refine HA.out.mono ?_
      rintro e w1 ⟨rfl, h⟩
      have HB1 := Lib.hid (below_step HB0.out h); clear h
      go_wp2_with fail
      refine (LAB.out _).mono ?_
      rintro e w2 ⟨rfl, h⟩
      have HB2 := Lib.hid (below_step HB1.out h); clear h
      go_wp2_with fail
      refine (LBC.out _).mono ?_
      rintro e w3 ⟨rfl, h⟩
      have HB3 := Lib.hid (below_step HB2.out h); clear h
      go_wp2_with fail
      refine (LAC.out _).mono ?_
      rintro e w4 ⟨rfl, h⟩
      have HB4 := Lib.hid (below_step HB3.out h); clear h
      go_wp2_with fail
      refine (FA.out _).mono ?_
      rintro e w5 ⟨rfl, h⟩
      have HB5 := Lib.hid (below_step HB4.out h); clear h
      go_wp2_with fail
      refine (LAF.out _).mono ?_
      rintro e w6 ⟨rfl, h⟩
      have HB6 := Lib.hid (below_step HB5.out h); clear h
      go_wp2_with fail
      refine (FA.out _).mono ?_
      rintro e w7 ⟨rfl, h⟩
      have HB7 := Lib.hid (below_step HB6.out h); clear h
      go_wp2_with fail
      refine (FFA.out _).mono ?_
      rintro e w8 ⟨rfl, h⟩
      have HB8 := Lib.hid (below_step HB7.out h); clear h
      go_wp2_with fail
      refine (FA.out _).mono ?_
      rintro e w9 ⟨rfl, h⟩
      have HB9 := Lib.hid (below_step HB8.out h); clear h
      go_wp2_with fail
      refine (LAB.out _).mono ?_
      rintro e w10 ⟨rfl, h⟩
      have HB10 := Lib.hid (below_step HB9.out h); clear h
      go_wp2_with fail
      refine (FA.out _).mono ?_
      rintro e w11 ⟨rfl, h⟩
      have HB11 := Lib.hid (below_step HB10.out h); clear h
      go_wp2_with fail
      refine (FB.out _).mono ?_
      rintro e w12 ⟨rfl, h⟩
      have HB12 := Lib.hid (below_step HB11.out h); clear h
      go_wp2_with fail
      refine (EA.out _).mono ?_
      rintro e w13 ⟨rfl, h⟩
      have HB13 := Lib.hid (below_step HB12.out h); clear h
      go_wp2_with fail
      refine (EB.out _).mono ?_
      rintro e w14 ⟨rfl, h⟩
      have HB14 := Lib.hid (below_step HB13.out h); clear h
      go_wp2_with fail
      refine (CA.out _).mono ?_
      rintro e w15 ⟨rfl, h⟩
      have HB15 := Lib.hid (below_step HB14.out h); clear h
      go_wp2_with fail
      refine (CB.out _).mono ?_
      rintro e w16 ⟨rfl, h⟩
      have HB16 := Lib.hid (below_step HB15.out h); clear h
      go_wp2_with fail
      go_ret
      exact ⟨rfl, HB16.out⟩
theorem lawK (s0 s1 s2 : ByteArray) (w : World) (h0 : s0.size ≤ 9223372036854775807) (h1 : s1.size ≤ 9223372036854775807) (h2 : s2.size ≤ 9223372036854775807) :
    Calls Tryd.prog 6 #[.string s0, .string s1, .string s2] w fun e w' => e = .returned (.bool true) ∧ Below w.heap.size w w' := by
  rw [← str_of s0, ← str_of s1, ← str_of s2]
  have e0 := Lib.size_eq s0; have e1 := Lib.size_eq s1; have e2 := Lib.size_eq s2
  generalize s0.data.toList = a at *
  generalize s1.data.toList = b at *
  generalize s2.data.toList = c at *
  rw [e0] at h0; rw [e1] at h1; rw [e2] at h2
  clear e0 e1 e2
  have HA := Lib.hid (alive_any w)
  by_cases ha : 1000 < a.length
  · have i1 : (1000 : Int) < (a.length : Int) := by omega
    go_enter Tryd.func6, Tryd.ntmps6
    go_wp2_with fail
    refine HA.out.mono ?_
    rintro e w1 ⟨rfl, h⟩
    go_wp2_with fail
    go_ret
    exact ⟨rfl, h⟩
  by_cases hb : 1000 < b.length
  · have i1 : ¬ (1000 : Int) < (a.length : Int) := by omega
    have i2 : (1000 : Int) < (b.length : Int) := by omega
    go_enter Tryd.func6, Tryd.ntmps6
    go_wp2_with fail
    refine HA.out.mono ?_
    rintro e w1 ⟨rfl, h⟩
    go_wp2_with fail
    go_ret
    exact ⟨rfl, h⟩
  by_cases hc : 1000 < c.length
  · have i1 : ¬ (1000 : Int) < (a.length : Int) := by omega
    have i2 : ¬ (1000 : Int) < (b.length : Int) := by omega
    have i3 : (1000 : Int) < (c.length : Int) := by omega
    go_enter Tryd.func6, Tryd.ntmps6
    go_wp2_with fail
    refine HA.out.mono ?_
    rintro e w1 ⟨rfl, h⟩
    go_wp2_with fail
    go_ret
    exact ⟨rfl, h⟩
  exact lawK_in a b c w (by omega) (by omega) (by omega)
end Go.Proofs.YthedhominhgeaaaDoor
