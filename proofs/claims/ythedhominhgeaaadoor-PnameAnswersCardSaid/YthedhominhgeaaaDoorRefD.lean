/- A name's bytes and signs, by the document's answer: what the calls compute. -/
import Derived.Test.YthedhominhgeaaaDoorRefF
import Derived.Test.YthedhominhgeaaaDoorTk
namespace Go.Proofs.YthedhominhgeaaaDoor
open Go.RowKit
set_option linter.unusedVariables false
theorem wrap_byt (c : UInt8) : wrap64 (byt c) = byt c := by
  have h0 := byt_nonneg c; have h1 := byt_lt c
  unfold wrap64; omega
attribute [local go_sem] nat_byt str_size str_get str_from str_to str_list lit_list wrap_byt

theorem refDigit_any (c : UInt8) (w : World) : Calls Tryd.prog 52 #[.int .i64 (byt c)] w fun e w' => e = .returned (.int .i64 (digit c)) ∧ w' = w := by
  have h0 := byt_nonneg c; have h1 := byt_lt c
  unfold digit
  generalize byt c = n at *
  by_cases q47 : n ≤ 47
  · rw [if_neg (by omega), if_neg (by omega), if_neg (by omega)]
    have f0 : ¬ 48 ≤ n := by omega
    have f1 : n ≤ 57 := by omega
    have f2 : ¬ 97 ≤ n := by omega
    have f3 : n ≤ 102 := by omega
    have f4 : ¬ 65 ≤ n := by omega
    have f5 : n ≤ 70 := by omega
    clear q47
    go_enter Tryd.func52, Tryd.ntmps52
    go_wp2
    go_ret
    exact ⟨rfl, rfl⟩
  by_cases q57 : n ≤ 57
  · rw [if_pos (by omega)]
    have f0 : 48 ≤ n := by omega
    have f1 : n ≤ 57 := by omega
    have f2 : ¬ 97 ≤ n := by omega
    have f3 : n ≤ 102 := by omega
    have f4 : ¬ 65 ≤ n := by omega
    have f5 : n ≤ 70 := by omega
    clear q47 q57
    go_enter Tryd.func52, Tryd.ntmps52
    go_wp2
    go_ret
    exact ⟨rfl, rfl⟩
  by_cases q64 : n ≤ 64
  · rw [if_neg (by omega), if_neg (by omega), if_neg (by omega)]
    have f0 : 48 ≤ n := by omega
    have f1 : ¬ n ≤ 57 := by omega
    have f2 : ¬ 97 ≤ n := by omega
    have f3 : n ≤ 102 := by omega
    have f4 : ¬ 65 ≤ n := by omega
    have f5 : n ≤ 70 := by omega
    clear q47 q57 q64
    go_enter Tryd.func52, Tryd.ntmps52
    go_wp2
    go_ret
    exact ⟨rfl, rfl⟩
  by_cases q70 : n ≤ 70
  · rw [if_neg (by omega), if_pos (by omega), show n - 55 = n - 65 + 10 by omega]
    have f0 : 48 ≤ n := by omega
    have f1 : ¬ n ≤ 57 := by omega
    have f2 : ¬ 97 ≤ n := by omega
    have f3 : n ≤ 102 := by omega
    have f4 : 65 ≤ n := by omega
    have f5 : n ≤ 70 := by omega
    clear q47 q57 q64 q70
    go_enter Tryd.func52, Tryd.ntmps52
    go_wp2
    go_ret
    exact ⟨rfl, rfl⟩
  by_cases q96 : n ≤ 96
  · rw [if_neg (by omega), if_neg (by omega), if_neg (by omega)]
    have f0 : 48 ≤ n := by omega
    have f1 : ¬ n ≤ 57 := by omega
    have f2 : ¬ 97 ≤ n := by omega
    have f3 : n ≤ 102 := by omega
    have f4 : 65 ≤ n := by omega
    have f5 : ¬ n ≤ 70 := by omega
    clear q47 q57 q64 q70 q96
    go_enter Tryd.func52, Tryd.ntmps52
    go_wp2
    go_ret
    exact ⟨rfl, rfl⟩
  by_cases q102 : n ≤ 102
  · rw [if_neg (by omega), if_neg (by omega), if_pos (by omega), show n - 87 = n - 97 + 10 by omega]
    have f0 : 48 ≤ n := by omega
    have f1 : ¬ n ≤ 57 := by omega
    have f2 : 97 ≤ n := by omega
    have f3 : n ≤ 102 := by omega
    have f4 : 65 ≤ n := by omega
    have f5 : ¬ n ≤ 70 := by omega
    clear q47 q57 q64 q70 q96 q102
    go_enter Tryd.func52, Tryd.ntmps52
    go_wp2
    go_ret
    exact ⟨rfl, rfl⟩
  by_cases q255 : n ≤ 255
  · rw [if_neg (by omega), if_neg (by omega), if_neg (by omega)]
    have f0 : 48 ≤ n := by omega
    have f1 : ¬ n ≤ 57 := by omega
    have f2 : 97 ≤ n := by omega
    have f3 : ¬ n ≤ 102 := by omega
    have f4 : 65 ≤ n := by omega
    have f5 : ¬ n ≤ 70 := by omega
    clear q47 q57 q64 q70 q96 q102 q255
    go_enter Tryd.func52, Tryd.ntmps52
    go_wp2
    go_ret
    exact ⟨rfl, rfl⟩
  exact absurd h1 (by omega)
theorem refPlain_any (c : UInt8) (w : World) : Calls Tryd.prog 39 #[.int .i64 (byt c)] w fun e w' => e = .returned (.bool (plain c)) ∧ w' = w := by
  have h0 := byt_nonneg c; have h1 := byt_lt c
  unfold plain letter
  generalize byt c = n at *
  by_cases q44 : n ≤ 44
  · rw [decide_eq_false (by omega), decide_eq_false (by omega), decide_eq_false (by omega)]
    have f0 : ¬ 65 ≤ n := by omega
    have f1 : n ≤ 90 := by omega
    have f2 : ¬ 97 ≤ n := by omega
    have f3 : n ≤ 122 := by omega
    have f4 : ¬ 48 ≤ n := by omega
    have f5 : n ≤ 57 := by omega
    have f6 : (n == 45) = false := by rw [beq_eq_false_iff_ne]; omega
    have f7 : (n == 46) = false := by rw [beq_eq_false_iff_ne]; omega
    have f8 : (n == 95) = false := by rw [beq_eq_false_iff_ne]; omega
    have f9 : (n == 126) = false := by rw [beq_eq_false_iff_ne]; omega
    clear q44
    go_enter Tryd.func39, Tryd.ntmps39
    go_wp2
    go_ret
    exact ⟨rfl, rfl⟩
  by_cases q45 : n ≤ 45
  · rw [decide_eq_false (by omega), decide_eq_false (by omega), decide_eq_true (by omega)]
    have f0 : ¬ 65 ≤ n := by omega
    have f1 : n ≤ 90 := by omega
    have f2 : ¬ 97 ≤ n := by omega
    have f3 : n ≤ 122 := by omega
    have f4 : ¬ 48 ≤ n := by omega
    have f5 : n ≤ 57 := by omega
    have f6 : (n == 45) = true := by rw [beq_iff_eq]; omega
    have f7 : (n == 46) = false := by rw [beq_eq_false_iff_ne]; omega
    have f8 : (n == 95) = false := by rw [beq_eq_false_iff_ne]; omega
    have f9 : (n == 126) = false := by rw [beq_eq_false_iff_ne]; omega
    clear q44 q45
    go_enter Tryd.func39, Tryd.ntmps39
    go_wp2
    go_ret
    exact ⟨rfl, rfl⟩
  by_cases q46 : n ≤ 46
  · rw [decide_eq_false (by omega), decide_eq_false (by omega), decide_eq_true (by omega)]
    have f0 : ¬ 65 ≤ n := by omega
    have f1 : n ≤ 90 := by omega
    have f2 : ¬ 97 ≤ n := by omega
    have f3 : n ≤ 122 := by omega
    have f4 : ¬ 48 ≤ n := by omega
    have f5 : n ≤ 57 := by omega
    have f6 : (n == 45) = false := by rw [beq_eq_false_iff_ne]; omega
    have f7 : (n == 46) = true := by rw [beq_iff_eq]; omega
    have f8 : (n == 95) = false := by rw [beq_eq_false_iff_ne]; omega
    have f9 : (n == 126) = false := by rw [beq_eq_false_iff_ne]; omega
    clear q44 q45 q46
    go_enter Tryd.func39, Tryd.ntmps39
    go_wp2
    go_ret
    exact ⟨rfl, rfl⟩
  by_cases q47 : n ≤ 47
  · rw [decide_eq_false (by omega), decide_eq_false (by omega), decide_eq_false (by omega)]
    have f0 : ¬ 65 ≤ n := by omega
    have f1 : n ≤ 90 := by omega
    have f2 : ¬ 97 ≤ n := by omega
    have f3 : n ≤ 122 := by omega
    have f4 : ¬ 48 ≤ n := by omega
    have f5 : n ≤ 57 := by omega
    have f6 : (n == 45) = false := by rw [beq_eq_false_iff_ne]; omega
    have f7 : (n == 46) = false := by rw [beq_eq_false_iff_ne]; omega
    have f8 : (n == 95) = false := by rw [beq_eq_false_iff_ne]; omega
    have f9 : (n == 126) = false := by rw [beq_eq_false_iff_ne]; omega
    clear q44 q45 q46 q47
    go_enter Tryd.func39, Tryd.ntmps39
    go_wp2
    go_ret
    exact ⟨rfl, rfl⟩
  by_cases q57 : n ≤ 57
  · rw [decide_eq_false (by omega), decide_eq_true (by omega), decide_eq_false (by omega)]
    have f0 : ¬ 65 ≤ n := by omega
    have f1 : n ≤ 90 := by omega
    have f2 : ¬ 97 ≤ n := by omega
    have f3 : n ≤ 122 := by omega
    have f4 : 48 ≤ n := by omega
    have f5 : n ≤ 57 := by omega
    have f6 : (n == 45) = false := by rw [beq_eq_false_iff_ne]; omega
    have f7 : (n == 46) = false := by rw [beq_eq_false_iff_ne]; omega
    have f8 : (n == 95) = false := by rw [beq_eq_false_iff_ne]; omega
    have f9 : (n == 126) = false := by rw [beq_eq_false_iff_ne]; omega
    clear q44 q45 q46 q47 q57
    go_enter Tryd.func39, Tryd.ntmps39
    go_wp2
    go_ret
    exact ⟨rfl, rfl⟩
  by_cases q64 : n ≤ 64
  · rw [decide_eq_false (by omega), decide_eq_false (by omega), decide_eq_false (by omega)]
    have f0 : ¬ 65 ≤ n := by omega
    have f1 : n ≤ 90 := by omega
    have f2 : ¬ 97 ≤ n := by omega
    have f3 : n ≤ 122 := by omega
    have f4 : 48 ≤ n := by omega
    have f5 : ¬ n ≤ 57 := by omega
    have f6 : (n == 45) = false := by rw [beq_eq_false_iff_ne]; omega
    have f7 : (n == 46) = false := by rw [beq_eq_false_iff_ne]; omega
    have f8 : (n == 95) = false := by rw [beq_eq_false_iff_ne]; omega
    have f9 : (n == 126) = false := by rw [beq_eq_false_iff_ne]; omega
    clear q44 q45 q46 q47 q57 q64
    go_enter Tryd.func39, Tryd.ntmps39
    go_wp2
    go_ret
    exact ⟨rfl, rfl⟩
  by_cases q90 : n ≤ 90
  · rw [decide_eq_true (by omega), decide_eq_false (by omega), decide_eq_false (by omega)]
    have f0 : 65 ≤ n := by omega
    have f1 : n ≤ 90 := by omega
    have f2 : ¬ 97 ≤ n := by omega
    have f3 : n ≤ 122 := by omega
    have f4 : 48 ≤ n := by omega
    have f5 : ¬ n ≤ 57 := by omega
    have f6 : (n == 45) = false := by rw [beq_eq_false_iff_ne]; omega
    have f7 : (n == 46) = false := by rw [beq_eq_false_iff_ne]; omega
    have f8 : (n == 95) = false := by rw [beq_eq_false_iff_ne]; omega
    have f9 : (n == 126) = false := by rw [beq_eq_false_iff_ne]; omega
    clear q44 q45 q46 q47 q57 q64 q90
    go_enter Tryd.func39, Tryd.ntmps39
    go_wp2
    go_ret
    exact ⟨rfl, rfl⟩
  by_cases q94 : n ≤ 94
  · rw [decide_eq_false (by omega), decide_eq_false (by omega), decide_eq_false (by omega)]
    have f0 : 65 ≤ n := by omega
    have f1 : ¬ n ≤ 90 := by omega
    have f2 : ¬ 97 ≤ n := by omega
    have f3 : n ≤ 122 := by omega
    have f4 : 48 ≤ n := by omega
    have f5 : ¬ n ≤ 57 := by omega
    have f6 : (n == 45) = false := by rw [beq_eq_false_iff_ne]; omega
    have f7 : (n == 46) = false := by rw [beq_eq_false_iff_ne]; omega
    have f8 : (n == 95) = false := by rw [beq_eq_false_iff_ne]; omega
    have f9 : (n == 126) = false := by rw [beq_eq_false_iff_ne]; omega
    clear q44 q45 q46 q47 q57 q64 q90 q94
    go_enter Tryd.func39, Tryd.ntmps39
    go_wp2
    go_ret
    exact ⟨rfl, rfl⟩
  by_cases q95 : n ≤ 95
  · rw [decide_eq_false (by omega), decide_eq_false (by omega), decide_eq_true (by omega)]
    have f0 : 65 ≤ n := by omega
    have f1 : ¬ n ≤ 90 := by omega
    have f2 : ¬ 97 ≤ n := by omega
    have f3 : n ≤ 122 := by omega
    have f4 : 48 ≤ n := by omega
    have f5 : ¬ n ≤ 57 := by omega
    have f6 : (n == 45) = false := by rw [beq_eq_false_iff_ne]; omega
    have f7 : (n == 46) = false := by rw [beq_eq_false_iff_ne]; omega
    have f8 : (n == 95) = true := by rw [beq_iff_eq]; omega
    have f9 : (n == 126) = false := by rw [beq_eq_false_iff_ne]; omega
    clear q44 q45 q46 q47 q57 q64 q90 q94 q95
    go_enter Tryd.func39, Tryd.ntmps39
    go_wp2
    go_ret
    exact ⟨rfl, rfl⟩
  by_cases q96 : n ≤ 96
  · rw [decide_eq_false (by omega), decide_eq_false (by omega), decide_eq_false (by omega)]
    have f0 : 65 ≤ n := by omega
    have f1 : ¬ n ≤ 90 := by omega
    have f2 : ¬ 97 ≤ n := by omega
    have f3 : n ≤ 122 := by omega
    have f4 : 48 ≤ n := by omega
    have f5 : ¬ n ≤ 57 := by omega
    have f6 : (n == 45) = false := by rw [beq_eq_false_iff_ne]; omega
    have f7 : (n == 46) = false := by rw [beq_eq_false_iff_ne]; omega
    have f8 : (n == 95) = false := by rw [beq_eq_false_iff_ne]; omega
    have f9 : (n == 126) = false := by rw [beq_eq_false_iff_ne]; omega
    clear q44 q45 q46 q47 q57 q64 q90 q94 q95 q96
    go_enter Tryd.func39, Tryd.ntmps39
    go_wp2
    go_ret
    exact ⟨rfl, rfl⟩
  by_cases q122 : n ≤ 122
  · rw [decide_eq_true (by omega), decide_eq_false (by omega), decide_eq_false (by omega)]
    have f0 : 65 ≤ n := by omega
    have f1 : ¬ n ≤ 90 := by omega
    have f2 : 97 ≤ n := by omega
    have f3 : n ≤ 122 := by omega
    have f4 : 48 ≤ n := by omega
    have f5 : ¬ n ≤ 57 := by omega
    have f6 : (n == 45) = false := by rw [beq_eq_false_iff_ne]; omega
    have f7 : (n == 46) = false := by rw [beq_eq_false_iff_ne]; omega
    have f8 : (n == 95) = false := by rw [beq_eq_false_iff_ne]; omega
    have f9 : (n == 126) = false := by rw [beq_eq_false_iff_ne]; omega
    clear q44 q45 q46 q47 q57 q64 q90 q94 q95 q96 q122
    go_enter Tryd.func39, Tryd.ntmps39
    go_wp2
    go_ret
    exact ⟨rfl, rfl⟩
  by_cases q125 : n ≤ 125
  · rw [decide_eq_false (by omega), decide_eq_false (by omega), decide_eq_false (by omega)]
    have f0 : 65 ≤ n := by omega
    have f1 : ¬ n ≤ 90 := by omega
    have f2 : 97 ≤ n := by omega
    have f3 : ¬ n ≤ 122 := by omega
    have f4 : 48 ≤ n := by omega
    have f5 : ¬ n ≤ 57 := by omega
    have f6 : (n == 45) = false := by rw [beq_eq_false_iff_ne]; omega
    have f7 : (n == 46) = false := by rw [beq_eq_false_iff_ne]; omega
    have f8 : (n == 95) = false := by rw [beq_eq_false_iff_ne]; omega
    have f9 : (n == 126) = false := by rw [beq_eq_false_iff_ne]; omega
    clear q44 q45 q46 q47 q57 q64 q90 q94 q95 q96 q122 q125
    go_enter Tryd.func39, Tryd.ntmps39
    go_wp2
    go_ret
    exact ⟨rfl, rfl⟩
  by_cases q126 : n ≤ 126
  · rw [decide_eq_false (by omega), decide_eq_false (by omega), decide_eq_true (by omega)]
    have f0 : 65 ≤ n := by omega
    have f1 : ¬ n ≤ 90 := by omega
    have f2 : 97 ≤ n := by omega
    have f3 : ¬ n ≤ 122 := by omega
    have f4 : 48 ≤ n := by omega
    have f5 : ¬ n ≤ 57 := by omega
    have f6 : (n == 45) = false := by rw [beq_eq_false_iff_ne]; omega
    have f7 : (n == 46) = false := by rw [beq_eq_false_iff_ne]; omega
    have f8 : (n == 95) = false := by rw [beq_eq_false_iff_ne]; omega
    have f9 : (n == 126) = true := by rw [beq_iff_eq]; omega
    clear q44 q45 q46 q47 q57 q64 q90 q94 q95 q96 q122 q125 q126
    go_enter Tryd.func39, Tryd.ntmps39
    go_wp2
    go_ret
    exact ⟨rfl, rfl⟩
  by_cases q255 : n ≤ 255
  · rw [decide_eq_false (by omega), decide_eq_false (by omega), decide_eq_false (by omega)]
    have f0 : 65 ≤ n := by omega
    have f1 : ¬ n ≤ 90 := by omega
    have f2 : 97 ≤ n := by omega
    have f3 : ¬ n ≤ 122 := by omega
    have f4 : 48 ≤ n := by omega
    have f5 : ¬ n ≤ 57 := by omega
    have f6 : (n == 45) = false := by rw [beq_eq_false_iff_ne]; omega
    have f7 : (n == 46) = false := by rw [beq_eq_false_iff_ne]; omega
    have f8 : (n == 95) = false := by rw [beq_eq_false_iff_ne]; omega
    have f9 : (n == 126) = false := by rw [beq_eq_false_iff_ne]; omega
    clear q44 q45 q46 q47 q57 q64 q90 q94 q95 q96 q122 q125 q126 q255
    go_enter Tryd.func39, Tryd.ntmps39
    go_wp2
    go_ret
    exact ⟨rfl, rfl⟩
  exact absurd h1 (by omega)

def signL : List UInt8 := [33, 36, 38, 39, 40, 41, 42, 43, 44, 59, 61, 58, 64]
theorem sign_lit : (⟨#[33, 36, 38, 39, 40, 41, 42, 43, 44, 59, 61, 58, 64]⟩ : ByteArray) = str signL := rfl
theorem signL_len : signL.length = 13 := rfl
theorem refSign_any (c : UInt8) (w : World) : Calls Tryd.prog 40 #[.int .i64 (byt c)] w fun e w' => e = .returned (.bool (sign c)) ∧ w' = w := by
  have HP := Lib.hid (fun w => refPlain_any c w)
  unfold sign
  show Calls Tryd.prog 40 #[.int .i64 (byt c)] w fun e w' => e = .returned (.bool (plain c || decide (c ∈ signL))) ∧ w' = w
  cases hp : plain c with
  | true =>
    rw [hp] at HP
    clear hp
    go_enter Tryd.func40, Tryd.ntmps40
    go_wp2_with (go_at_call 39; refine (HP.out _).mono ?_; rintro e w1 ⟨rfl, rfl⟩)
    go_ret
    exact ⟨rfl, rfl⟩
  | false =>
    rw [hp] at HP
    clear hp
    obtain ⟨res, hres⟩ : ∃ res, decide (c ∈ signL) = res := ⟨_, rfl⟩
    rw [hres, Bool.false_or]
    have HR0 : Hid (decide (c ∈ signL.drop 0) = res) := Lib.hid hres
    clear hres
    go_enter Tryd.func40, Tryd.ntmps40
    rw [sign_lit]
    obtain ⟨L, hL⟩ : ∃ L, L = signL := ⟨_, rfl⟩
    rw [← hL] at HR0 ⊢
    have hLn : L.length = 13 := by rw [hL]; rfl
    clear hL
    go_wp2_with (go_at_call 39; refine (HP.out _).mono ?_; rintro e w1 ⟨rfl, rfl⟩)
    go_loop [4] (fun s => ∃ (k : Nat), k ≤ 13 ∧ s = .int .i64 k ∧ Hid (decide (c ∈ L.drop k) = res)) (fun i => 13 - (intOf i).toNat)
    case atStart => exact ⟨0, by omega, rfl, HR0⟩
    case round =>
      clear HR0 HP
      obtain ⟨k, hk, rfl, HR⟩ := hrel
      by_cases hlt : k < 13
      · obtain ⟨d, hd⟩ : ∃ d, L[k]? = some d := ⟨L[k], List.getElem?_eq_getElem (by omega)⟩
        have e0 : ∀ h : k < L.length, L[k]'h = d := fun h => by rw [List.getElem?_eq_getElem h] at hd; exact Option.some.inj hd
        have i2 : (k : Int) < (L.length : Int) := by omega
        have hdr : L.drop k = d :: L.drop (k + 1) := by rw [← e0 (by omega)]; exact List.drop_eq_getElem_cons (by omega)
        rw [hdr] at HR
        clear hdr hd
        by_cases hc : byt d = byt c
        · have hcd := byt_inj hc
          have h5 : (byt d == byt c) = true := by rw [beq_iff_eq]; exact hc
          have hr : res = true := by rw [← HR.out, hcd]; simp
          subst hr
          clear HR hc hcd
          go_wp2_with fail
          go_ret
          exact ⟨rfl, rfl⟩
        · have hcd : ¬ c = d := fun h => hc (by rw [h])
          have h5 : (byt d == byt c) = false := by rw [beq_eq_false_iff_ne]; exact hc
          have HR2 : Hid (decide (c ∈ L.drop (k + 1)) = res) := by
            refine Lib.hid ?_
            rw [← HR.out, decide_eq_decide]
            simp [hcd]
          clear HR hc hcd
          go_wp2_with fail
          go_round
          case rel => exact ⟨k + 1, by omega, by simp, HR2⟩
          case measure => simp [intOf]; omega
      · have hk2 : ¬ (k : Int) < (L.length : Int) := by omega
        have hr : res = false := by rw [← HR.out, List.drop_eq_nil_of_le (by omega)]; simp
        subst hr
        clear HR
        go_wp2_with fail
        go_ret
        exact ⟨rfl, rfl⟩

/-- The byte that a text's first three signs tell, as a number; -1: none. -/
def toldI (t : List UInt8) : Int := match toldV t with
  | some v => byt v
  | none => -1
theorem toldI_short {t : List UInt8} (h : t.length < 3) : toldI t = -1 := by
  unfold toldI
  match t, h with
  | [], _ => rfl
  | [_], _ => rfl
  | [_, _], _ => rfl
theorem toldI_three (a x y : UInt8) (r : List UInt8) : toldI (a :: x :: y :: r) = if byt a = 37 ∧ 0 ≤ digit x ∧ 0 ≤ digit y then 16 * digit x + digit y else -1 := by
  have e : toldV (a :: x :: y :: r) = (if a = 37 ∧ 0 ≤ digit x ∧ 0 ≤ digit y then some (UInt8.ofNat (16 * digit x + digit y).toNat) else none) := rfl
  unfold toldI
  rw [e]
  have ha : a = 37 ↔ byt a = 37 := ⟨fun h => by rw [h]; rfl, fun h => byt_inj h⟩
  by_cases h : byt a = 37 ∧ 0 ≤ digit x ∧ 0 ≤ digit y
  · rw [if_pos h, if_pos ⟨ha.2 h.1, h.2⟩]
    have hb := (digit_range x).2; have hb2 := (digit_range y).2
    show byt (UInt8.ofNat (16 * digit x + digit y).toNat) = _
    unfold byt
    rw [UInt8.toNat_ofNat_of_lt' (by show _ < 256; omega), Int.toNat_of_nonneg (by omega)]
  · rw [if_neg h, if_neg (fun k => h ⟨ha.1 k.1, k.2⟩)]
set_option maxHeartbeats 1000000 in
theorem refTold_any (l : List UInt8) (k : Nat) (w : World) (hl : l.length ≤ 1099511627776) (hk : k ≤ l.length) :
    Calls Tryd.prog 38 #[.string (str l), .int .i64 k] w fun e w' => e = .returned (.int .i64 (toldI (l.drop k))) ∧ w' = w := by
  have HD := Lib.hid (fun c w => refDigit_any c w)
  by_cases h : l.length ≤ k + 2
  · rw [toldI_short (by rw [List.length_drop]; omega)]
    have i1 : (l.length : Int) ≤ (k : Int) + 2 := by omega
    clear HD
    go_enter Tryd.func38, Tryd.ntmps38
    go_wp2_with fail
    go_ret
    exact ⟨rfl, rfl⟩
  · obtain ⟨a, h0⟩ : ∃ a, l[k]? = some a := ⟨l[k]'(by omega), List.getElem?_eq_getElem _⟩
    obtain ⟨x, h1⟩ : ∃ a, l[k + 1]? = some a := ⟨l[k + 1]'(by omega), List.getElem?_eq_getElem _⟩
    obtain ⟨y, h2⟩ : ∃ a, l[k + 2]? = some a := ⟨l[k + 2]'(by omega), List.getElem?_eq_getElem _⟩
    have e0 : ∀ h : k < l.length, l[k]'h = a := fun h => by rw [List.getElem?_eq_getElem h] at h0; exact Option.some.inj h0
    have e1 : ∀ h : k + 1 < l.length, l[k + 1]'h = x := fun h => by rw [List.getElem?_eq_getElem h] at h1; exact Option.some.inj h1
    have e2 : ∀ h : k + 2 < l.length, l[k + 2]'h = y := fun h => by rw [List.getElem?_eq_getElem h] at h2; exact Option.some.inj h2
    have e3 : ∀ h : ((k : Int) + 1).toNat < l.length, l[((k : Int) + 1).toNat]'h = x := fun h => by simp only [show ((k : Int) + 1).toNat = k + 1 by omega]; exact e1 _
    have e4 : ∀ h : ((k : Int) + 2).toNat < l.length, l[((k : Int) + 2).toNat]'h = y := fun h => by simp only [show ((k : Int) + 2).toNat = k + 2 by omega]; exact e2 _
    have hdr : l.drop k = a :: x :: y :: l.drop (k + 3) := by
      rw [List.drop_eq_getElem_cons (by omega), List.drop_eq_getElem_cons (by omega), List.drop_eq_getElem_cons (i := k + 1 + 1) (by omega), e0 (by omega), e1 (by omega), e2 (by omega)]
    rw [hdr, toldI_three]
    have i1 : ¬ (l.length : Int) ≤ (k : Int) + 2 := by omega
    have i2 : (k : Int) < (l.length : Int) := by omega
    have i3 : (k : Int) + 1 < (l.length : Int) := by omega
    have i4 : (k : Int) + 2 < (l.length : Int) := by omega
    have i5 : (0 : Int) ≤ (k : Int) + 1 := by omega
    have i6 : (0 : Int) ≤ (k : Int) + 2 := by omega
    have rx := digit_range x; have ry := digit_range y
    clear h0 h1 h2 hdr h
    by_cases ha : byt a = 37
    · have h5 : (byt a == 37) = true := by rw [beq_iff_eq]; exact ha
      have H1 := Lib.hid (fun w => refDigit_any x w)
      have H2 := Lib.hid (fun w => refDigit_any y w)
      generalize digit x = dx at *
      generalize digit y = dy at *
      by_cases hx : 0 ≤ dx
      · by_cases hy : 0 ≤ dy
        · rw [if_pos ⟨ha, hx, hy⟩]
          have j1 : ¬ dx < 0 := by omega
          have j2 : ¬ dy < 0 := by omega
          clear ha
          go_enter Tryd.func38, Tryd.ntmps38
          go_wp2_with fail
          refine (H1.out _).mono ?_
          rintro e w1 ⟨rfl, hww⟩
          subst hww
          go_wp2_with fail
          refine (H2.out _).mono ?_
          rintro e w1 ⟨rfl, hww⟩
          subst hww
          go_wp2_with fail
          go_ret
          exact ⟨rfl, rfl⟩
        · rw [if_neg (fun h => hy h.2.2)]
          have j1 : ¬ dx < 0 := by omega
          have j2 : dy < 0 := by omega
          clear ha
          go_enter Tryd.func38, Tryd.ntmps38
          go_wp2_with fail
          refine (H1.out _).mono ?_
          rintro e w1 ⟨rfl, hww⟩
          subst hww
          go_wp2_with fail
          refine (H2.out _).mono ?_
          rintro e w1 ⟨rfl, hww⟩
          subst hww
          go_wp2_with fail
          go_ret
          exact ⟨rfl, rfl⟩
      · rw [if_neg (fun h => hx h.2.1)]
        have j1 : dx < 0 := by omega
        clear ha
        go_enter Tryd.func38, Tryd.ntmps38
        go_wp2_with fail
        refine (H1.out _).mono ?_
        rintro e w1 ⟨rfl, hww⟩
        subst hww
        go_wp2_with fail
        refine (H2.out _).mono ?_
        rintro e w1 ⟨rfl, hww⟩
        subst hww
        go_wp2_with fail
        go_ret
        exact ⟨rfl, rfl⟩
    · rw [if_neg (fun h => ha h.1)]
      have h5 : (byt a == 37) = false := by rw [beq_eq_false_iff_ne]; exact ha
      clear ha
      go_enter Tryd.func38, Tryd.ntmps38
      go_wp2_with fail
      go_ret
      exact ⟨rfl, rfl⟩
end Go.Proofs.YthedhominhgeaaaDoor
