/- Lines, plain: what is made of each byte; no 13 is left; as many ends as before; made so already. -/
import Derived.Test.YthbjibgfhagonaaDoorLines
namespace Go.Proofs.YthbjibgfhagonaaDoor
open Go.RowKit
set_option linter.unusedVariables false

theorem repAll_nil {old : List UInt8} {c : UInt8} (h1 : old ≠ []) : repAll old c [] = [] := by
  refine repAll_none ?_
  refine Lib.count_miss ?_
  cases old with
  | nil => exact absurd rfl h1
  | cons x t => rfl
theorem repAll_yes {old : List UInt8} {c : UInt8} {s : List UInt8} (h1 : old ≠ []) (h : old.isPrefixOf s = true) : repAll old c s = c :: repAll old c (s.drop old.length) := by
  have hi : Lib.index s old = (0 : Nat) := by
    cases s with
    | nil => cases old with
      | nil => exact absurd rfl h1
      | cons x t => simp at h
    | cons b l => unfold Lib.index; rw [if_pos h]; rfl
  unfold repAll
  rw [Lib.count_hit h1 hi, Nat.add_comm, rep_succ hi, Nat.zero_add]; rfl
theorem repAll_no {old : List UInt8} {c b : UInt8} {l : List UInt8} (h1 : old ≠ []) (h : old.isPrefixOf (b :: l) = false) : repAll old c (b :: l) = b :: repAll old c l := by
  by_cases hm : Lib.index l old = -1
  · have hi : Lib.index (b :: l) old = -1 := by unfold Lib.index; rw [h, hm]; rfl
    rw [repAll_none (Lib.count_miss hi), repAll_none (Lib.count_miss hm)]
  · have hge := Lib.index_ge l old
    obtain ⟨i, hi⟩ := Int.eq_ofNat_of_zero_le (by omega : 0 ≤ Lib.index l old)
    have hi2 : Lib.index (b :: l) old = ((i + 1 : Nat) : Int) := by
      unfold Lib.index
      rw [h, hi]
      have : (((i : Nat) : Int) == -1) = false := by rw [beq_eq_false_iff_ne]; omega
      simp [this]
    unfold repAll
    rw [Lib.count_hit h1 hi2, Lib.count_hit h1 hi, Nat.add_comm 1, Nat.add_comm 1, rep_succ hi2, rep_succ hi, List.take_succ_cons]
    have e : (b :: l).drop (i + 1 + old.length) = l.drop (i + old.length) := by
      rw [show i + 1 + old.length = (i + old.length) + 1 by omega, List.drop_succ_cons]
    rw [e]; rfl

theorem pre1 (b : UInt8) (l : List UInt8) : [13].isPrefixOf (b :: l) = ((13 : UInt8) == b) := by
  show (((13 : UInt8) == b) && true) = _
  rw [Bool.and_true]
theorem pre1_no {b : UInt8} (h : b ≠ 13) (l : List UInt8) : [13].isPrefixOf (b :: l) = false := by rw [pre1, beq_eq_false_iff_ne]; exact fun e => h e.symm
theorem pre2_no {b : UInt8} (h : b ≠ 13) (l : List UInt8) : [13, 10].isPrefixOf (b :: l) = false := by
  show (((13 : UInt8) == b) && _) = false
  rw [beq_eq_false_iff_ne.2 (fun e => h e.symm)]; rfl
theorem rep1_cons (b : UInt8) (l : List UInt8) : repAll [13] 10 (b :: l) = (if b = 13 then 10 else b) :: repAll [13] 10 l := by
  by_cases h : b = 13
  · subst h
    rw [if_pos rfl, repAll_yes (old := [13]) (by simp) rfl]; rfl
  · rw [if_neg h, repAll_no (by simp) (pre1_no h l)]
theorem lines_nil : linesB [] = [] := by unfold linesB; rw [repAll_nil (by simp), repAll_nil (by simp)]
theorem lines_crlf (t : List UInt8) : linesB (13 :: 10 :: t) = 10 :: linesB t := by
  unfold linesB
  rw [repAll_yes (old := [13, 10]) (by simp) rfl, rep1_cons]; rfl
theorem lines_cr {l : List UInt8} (h : ∀ t, l ≠ 10 :: t) : linesB (13 :: l) = 10 :: linesB l := by
  unfold linesB
  have : [13, 10].isPrefixOf (13 :: l) = false := by
    cases l with
    | nil => rfl
    | cons x t =>
      show (((10 : UInt8) == x) && true) = false
      rw [Bool.and_true, beq_eq_false_iff_ne]
      intro e; exact h t (by rw [← e])
  rw [repAll_no (by simp) this, rep1_cons]; rfl
theorem lines_cons {b : UInt8} (h : b ≠ 13) (l : List UInt8) : linesB (b :: l) = b :: linesB l := by
  unfold linesB
  rw [repAll_no (by simp) (pre2_no h l), rep1_cons, if_neg h]

theorem lines_ind {P : List UInt8 → Prop} (h0 : P []) (h1 : ∀ t, P t → P (13 :: 10 :: t)) (h2 : ∀ l, (∀ t, l ≠ 10 :: t) → P l → P (13 :: l)) (h3 : ∀ b l, b ≠ 13 → P l → P (b :: l)) : ∀ s, P s := by
  have key : ∀ (k : Nat) (s : List UInt8), s.length ≤ k → P s := by
    intro k
    induction k with
    | zero => intro s hs; rw [List.length_eq_zero_iff.1 (by omega : s.length = 0)]; exact h0
    | succ k ih =>
      intro s hs
      match s, hs with
      | [], _ => exact h0
      | b :: l, hs =>
        simp at hs
        by_cases hb : b = 13
        · subst hb
          match l, hs with
          | [], _ => exact h2 [] (fun t => by simp) h0
          | x :: t, hs =>
            simp at hs
            by_cases hx : x = 10
            · subst hx; exact h1 t (ih t (by omega))
            · exact h2 (x :: t) (fun t' e => hx (by injection e)) (ih (x :: t) (by simp; omega))
        · exact h3 b l hb (ih l (by omega))
  exact fun s => key s.length s (Nat.le_refl _)

theorem lines_no13 : ∀ s, (13 : UInt8) ∉ linesB s := by
  refine lines_ind ?_ ?_ ?_ ?_
  · rw [lines_nil]; simp
  · intro t h; rw [lines_crlf]; simp; exact h
  · intro l hl h; rw [lines_cr hl]; simp; exact h
  · intro b l hb h; rw [lines_cons hb]; simp; exact ⟨fun e => hb e.symm, h⟩
theorem lines_same : ∀ s : List UInt8, (13 : UInt8) ∉ s → linesB s = s
  | [], _ => lines_nil
  | b :: l, h => by
    simp at h
    rw [lines_cons (fun e => h.1 e.symm), lines_same l h.2]
theorem lines_twice (s : List UInt8) : linesB (linesB s) = linesB s := lines_same _ (lines_no13 s)

/-- How many ends, behind a byte p. -/
def ends : UInt8 → List UInt8 → Nat
  | _, [] => 0
  | p, b :: t => (if (b = 10 ∧ p ≠ 13) ∨ b = 13 then 1 else 0) + ends b t
theorem ends_at {p q : UInt8} (l : List UInt8) (hp : p ≠ 13) (h : q ≠ 13 ∨ ∀ t, l ≠ 10 :: t) : ends q l = ends p l := by
  cases l with
  | nil => rfl
  | cons b t =>
    unfold ends
    congr 1
    rcases h with h | h
    · simp [hp, h]
    · have : b ≠ 10 := fun e => h t (by rw [e])
      simp [this]
theorem ends_lines : ∀ s, ends 0 s = (linesB s).count 10 := by
  refine lines_ind ?_ ?_ ?_ ?_
  · rw [lines_nil]; rfl
  · intro t h
    rw [lines_crlf, List.count_cons, ← h]
    have e1 : ends 0 (13 :: 10 :: t) = 1 + (0 + ends 10 t) := by simp [ends]
    rw [e1, ends_at t (p := 0) (by decide) (.inl (by decide))]
    simp; omega
  · intro l hl h
    rw [lines_cr hl, List.count_cons, ← h]
    have e1 : ends 0 (13 :: l) = 1 + ends 13 l := by simp [ends]
    rw [e1, ends_at l (p := 0) (by decide) (.inr hl)]
    simp; omega
  · intro b l hb h
    rw [lines_cons hb, List.count_cons, ← h]
    have e1 : ends 0 (b :: l) = (if b = 10 then 1 else 0) + ends b l := by
      have : (0 : UInt8) ≠ 13 := by decide
      show (if (b = 10 ∧ (0 : UInt8) ≠ 13) ∨ b = 13 then 1 else 0) + ends b l = _
      congr 1
      simp [hb]
    rw [e1, ends_at l (p := 0) (by decide) (.inl hb)]
    by_cases hx : b = 10
    · simp [hx]; omega
    · simp [hx]
end Go.Proofs.YthbjibgfhagonaaDoor
