/- The references for one sign: Sign, span, Char, Blank, Begins, Goes: what the calls compute, for every number. -/
import Derived.Test.YthbjibgfhagonaaDoorSame
import Derived.Laws.OwnMore
namespace Go.Proofs.YthbjibgfhagonaaDoor
open Go.RowKit
set_option linter.unusedVariables false

def inS (v a b : Int) : Bool := decide (a ≤ v) && decide (v ≤ b)
theorem span_any (v a b : Int) (w : World) : Calls Tryd.prog 38 #[.int .i64 v, .int .i64 a, .int .i64 b] w fun e w' => e = .returned (.bool (inS v a b)) ∧ w' = w := by
  by_cases h1 : a ≤ v
  · by_cases h2 : v ≤ b
    · have e : inS v a b = true := by unfold inS; simp [h1, h2]
      rw [e]
      clear e
      go_enter Tryd.func38, Tryd.ntmps38; go_wp2; go_ret; exact ⟨rfl, rfl⟩
    · have e : inS v a b = false := by unfold inS; simp [h2]
      rw [e]
      clear e
      go_enter Tryd.func38, Tryd.ntmps38; go_wp2; go_ret; exact ⟨rfl, rfl⟩
  · have e : inS v a b = false := by unfold inS; simp [h1]
    rw [e]
    clear e
    go_enter Tryd.func38, Tryd.ntmps38; go_wp2; go_ret; exact ⟨rfl, rfl⟩

theorem sign_any (v : Int) (w : World) : Calls Tryd.prog 17 #[.int .i64 v] w fun e w' => e = .returned (.bool (Lib.validRune v)) ∧ w' = w := by
  by_cases h1 : v < 0
  · have e : Lib.validRune v = false := by unfold Lib.validRune; rw [decide_eq_false]; omega
    rw [e]; clear e
    go_enter Tryd.func17, Tryd.ntmps17; go_wp2; go_ret; exact ⟨rfl, rfl⟩
  by_cases h2 : 1114111 < v
  · have e : Lib.validRune v = false := by unfold Lib.validRune; rw [decide_eq_false]; omega
    rw [e]; clear e
    go_enter Tryd.func17, Tryd.ntmps17; go_wp2; go_ret; exact ⟨rfl, rfl⟩
  by_cases h3 : v < 55296
  · have e : Lib.validRune v = true := by unfold Lib.validRune; rw [decide_eq_true]; omega
    rw [e]; clear e
    go_enter Tryd.func17, Tryd.ntmps17; go_wp2; go_ret; exact ⟨rfl, rfl⟩
  by_cases h4 : 57343 < v
  · have e : Lib.validRune v = true := by unfold Lib.validRune; rw [decide_eq_true]; omega
    rw [e]; clear e
    go_enter Tryd.func17, Tryd.ntmps17; go_wp2; go_ret; exact ⟨rfl, rfl⟩
  · have e : Lib.validRune v = false := by unfold Lib.validRune; rw [decide_eq_false]; omega
    rw [e]; clear e
    go_enter Tryd.func17, Tryd.ntmps17; go_wp2; go_ret; exact ⟨rfl, rfl⟩

theorem refBlank_any (v : Int) (w : World) : Calls Tryd.prog 21 #[.int .i64 v] w fun e w' => e = .returned (.bool (blankP v)) ∧ w' = w := by
  by_cases h0 : v = 32
  · subst h0; go_enter Tryd.func21, Tryd.ntmps21; go_wp2; go_ret; exact ⟨rfl, rfl⟩
  by_cases h1 : v = 9
  · subst h1; go_enter Tryd.func21, Tryd.ntmps21; go_wp2; go_ret; exact ⟨rfl, rfl⟩
  by_cases h2 : v = 10
  · subst h2; go_enter Tryd.func21, Tryd.ntmps21; go_wp2; go_ret; exact ⟨rfl, rfl⟩
  by_cases h3 : v = 13
  · subst h3; go_enter Tryd.func21, Tryd.ntmps21; go_wp2; go_ret; exact ⟨rfl, rfl⟩
  have e0 : (v == 32) = false := beq_eq_false_iff_ne.2 h0
  have e1 : (v == 9) = false := beq_eq_false_iff_ne.2 h1
  have e2 : (v == 10) = false := beq_eq_false_iff_ne.2 h2
  have e3 : (v == 13) = false := beq_eq_false_iff_ne.2 h3
  have e4 : Hid (blankP v = false) := by unfold blankP Hid; rw [e0, e1, e2, e3]; rfl
  clear h0 h1 h2 h3
  go_enter Tryd.func21, Tryd.ntmps21
  go_wp2
  go_ret
  exact ⟨by rw [e4.out]; rfl, rfl⟩

theorem char_eq (v : Int) : charP v = (v == 9 || v == 10 || v == 13 || (inS v 32 55295 || (inS v 57344 65533 || inS v 65536 1114111))) := by
  unfold charP inAny charL inS
  simp only [List.any_cons, List.any_nil, Bool.or_false]
theorem inS_eq (v a b : Int) : inS v a b = (decide (a ≤ v) && decide (v ≤ b)) := rfl

theorem refChar_any (v : Int) (w : World) : Calls Tryd.prog 19 #[.int .i64 v] w fun e w' => e = .returned (.bool (charP v)) ∧ w' = w := by
  by_cases h1 : v = 9
  · subst h1; go_enter Tryd.func19, Tryd.ntmps19; go_wp2; go_ret; exact ⟨rfl, rfl⟩
  by_cases h2 : v = 10
  · subst h2; go_enter Tryd.func19, Tryd.ntmps19; go_wp2; go_ret; exact ⟨rfl, rfl⟩
  by_cases h3 : v = 13
  · subst h3; go_enter Tryd.func19, Tryd.ntmps19; go_wp2; go_ret; exact ⟨rfl, rfl⟩
  have e1 : (v == 9) = false := beq_eq_false_iff_ne.2 h1
  have e2 : (v == 10) = false := beq_eq_false_iff_ne.2 h2
  have e3 : (v == 13) = false := beq_eq_false_iff_ne.2 h3
  have e4 : charP v = (inS v 32 55295 || (inS v 57344 65533 || inS v 65536 1114111)) := by rw [char_eq, e1, e2, e3]; rfl
  rw [e4]
  clear e4 h1 h2 h3
  have H1 := Lib.hid (span_any v 32 55295 w); have H2 := Lib.hid (span_any v 57344 65533 w); have H3 := Lib.hid (span_any v 65536 1114111 w)
  generalize inS v 32 55295 = s1 at H1
  generalize inS v 57344 65533 = s2 at H2
  generalize inS v 65536 1114111 = s3 at H3
  cases s1 <;> cases s2
  all_goals
    go_enter Tryd.func19, Tryd.ntmps19
    go_wp2_with (first | (go_at_call_of 38 (Value.int .i64 32); refine H1.out.mono ?_; rintro e w1 ⟨rfl, rfl⟩) | (go_at_call_of 38 (Value.int .i64 57344); refine H2.out.mono ?_; rintro e w1 ⟨rfl, rfl⟩) | (go_at_call_of 38 (Value.int .i64 65536); refine H3.out.mono ?_; rintro e w1 ⟨rfl, rfl⟩))
    go_ret
    exact ⟨rfl, rfl⟩
end Go.Proofs.YthbjibgfhagonaaDoor
