/- Is a token one: what both calls compute. -/
import Derived.Test.YtegfacepnklbjaaFuns
namespace Go.Proofs.Ytegfacepnklbjaa
open Go.RowKit
set_option linter.unusedVariables false
set_option linter.unusedSimpArgs false

def tkV (t : Tk) : Value := .agg #[.int .u8 (byt t.lit), .int .i64 t.len, .int .i64 t.dist]
theorem byt_zero {c : UInt8} : (byt c == 0) = decide (c = 0) := by
  by_cases h : c = 0
  · rw [h]; rfl
  · rw [decide_eq_false h, beq_eq_false_iff_ne]
    intro e
    exact h (byt_inj (e.trans (by rfl)))

theorem okT_iff (c : UInt8) (l d : Nat) : okT ⟨c, l, d⟩ = true ↔ ((l : Int) = 0 ∧ (d : Int) = 0) ∨ (3 ≤ (l : Int) ∧ (l : Int) ≤ 258 ∧ 1 ≤ (d : Int) ∧ (d : Int) ≤ 32768 ∧ c = 0) := by
  simp only [okT, Bool.or_eq_true, Bool.and_eq_true, beq_iff_eq, decide_eq_true_eq]
  constructor
  · rintro (⟨h1, h2⟩ | ⟨⟨⟨⟨h1, h2⟩, h3⟩, h4⟩, h5⟩)
    · exact .inl ⟨by omega, by omega⟩
    · exact .inr ⟨by omega, by omega, by omega, by omega, h5⟩
  · rintro (⟨h1, h2⟩ | ⟨h1, h2, h3, h4, h5⟩)
    · exact .inl ⟨by omega, by omega⟩
    · exact .inr ⟨⟨⟨⟨by omega, by omega⟩, by omega⟩, by omega⟩, h5⟩

theorem right_any (t : Tk) (w : World) :
    Calls Try.prog 20 #[tkV t] w fun e w' => e = .returned (.bool (okT t)) ∧ Below w.heap.size w w' := by
  obtain ⟨c, l, d⟩ := t
  have hc := byt_zero (c := c)
  obtain ⟨r, hr⟩ : ∃ r, r = okT ⟨c, l, d⟩ := ⟨_, rfl⟩
  rw [← hr]
  have HR := Lib.hid hr
  clear hr
  unfold tkV
  go_enter Try.func20, Try.ntmps20
  go_wp2_with fail
  all_goals
    go_ret
    refine ⟨?_, (Below.refl _ _).alloc (Nat.le_refl _) _⟩
    rw [HR.out]
    refine congrArg (fun x => Ending.returned (Value.bool x)) ?_
    rw [Bool.eq_iff_iff, okT_iff]
    simp only [beq_iff_eq, beq_eq_false_iff_ne, decide_eq_true_eq, Bool.false_eq_true, false_iff, ne_eq] at *
    by_cases hc0 : c = 0 <;> simp only [hc0, iff_true, true_iff, iff_false, and_true, and_false, or_false, not_true_eq_false, false_iff] <;> omega

theorem refRight_any (t : Tk) (w : World) :
    Calls Try.prog 18 #[tkV t] w fun e w' => e = .returned (.bool (okT t)) ∧ Below w.heap.size w w' := by
  obtain ⟨c, l, d⟩ := t
  have hc := byt_zero (c := c)
  obtain ⟨r, hr⟩ : ∃ r, r = okT ⟨c, l, d⟩ := ⟨_, rfl⟩
  rw [← hr]
  have HR := Lib.hid hr
  clear hr
  unfold tkV
  go_enter Try.func18, Try.ntmps18
  go_wp2_with fail
  all_goals
    go_ret
    refine ⟨?_, (Below.refl _ _).alloc (Nat.le_refl _) _⟩
    rw [HR.out]
    refine congrArg (fun x => Ending.returned (Value.bool x)) ?_
    rw [Bool.eq_iff_iff, okT_iff]
    simp only [beq_iff_eq, beq_eq_false_iff_ne, decide_eq_true_eq, Bool.false_eq_true, false_iff, ne_eq] at *
    by_cases hc0 : c = 0 <;> simp only [hc0, iff_true, true_iff, iff_false, and_true, and_false, or_false, not_true_eq_false, false_iff] <;> omega
end Go.Proofs.Ytegfacepnklbjaa
