/- XML's signs, blanks, what begins a name and what goes on: what the calls compute, for every number. -/
import Derived.Test.YthbjibgfhagonaaDoorIn
namespace Go.Proofs.YthbjibgfhagonaaDoor
open Go.RowKit
set_option linter.unusedVariables false

def spanCells (l : List (Int × Int)) : List Value := l.flatMap fun p => [.int .i32 p.1, .int .i32 p.2]
theorem spanCells_get : ∀ (l : List (Int × Int)) (i : Nat) (a b : Int), l[i]? = some (a, b) → (spanCells l)[i * 2]? = some (.int .i32 a) ∧ (spanCells l)[i * 2 + 1]? = some (.int .i32 b)
  | [], i, a, b, h => by simp at h
  | (x, y) :: l, 0, a, b, h => by
    simp at h
    obtain ⟨rfl, rfl⟩ := h
    exact ⟨rfl, rfl⟩
  | (x, y) :: l, i + 1, a, b, h => by
    have h' : l[i]? = some (a, b) := by simpa using h
    obtain ⟨h1, h2⟩ := spanCells_get l i a b h'
    have e : spanCells ((x, y) :: l) = .int .i32 x :: .int .i32 y :: spanCells l := rfl
    rw [e, show (i + 1) * 2 = i * 2 + 1 + 1 by omega]
    exact ⟨by simpa using h1, by simpa using h2⟩
theorem spans_of (w : World) (l : List (Int × Int)) (cs : List Value) (h : cs = spanCells l) : Spans (w.alloc (.cells cs.toArray 46)) w.heap.size l := fun i a b hi => by
  subst h
  obtain ⟨h1, h2⟩ := spanCells_get l i a b hi
  rw [World.cell?_alloc_new, World.cell?_alloc_new]
  simp [h1, h2]

def charL : List (Int × Int) := [(32, 55295), (57344, 65533), (65536, 1114111)]
def charP (r : Int) : Bool := r == 9 || r == 10 || r == 13 || inAny r charL
def beginL : List (Int × Int) := [(65, 90), (97, 122), (192, 214), (216, 246), (248, 767), (880, 893), (895, 8191), (8204, 8205), (8304, 8591), (11264, 12271), (12289, 55295), (63744, 64975), (65008, 65533), (65536, 983039)]
def beginP (r : Int) : Bool := r == 95 || inAny r beginL
def goL : List (Int × Int) := [(48, 57), (768, 879), (8255, 8256)]
def goP (r : Int) : Bool := beginP r || r == 45 || r == 46 || r == 183 || inAny r goL
def blankP (r : Int) : Bool := r == 32 || r == 9 || r == 10 || r == 13

set_option maxHeartbeats 400000 in
theorem char_any (r : Int) (w : World) : Calls Tryd.prog 9 #[.int .i32 r] w fun e w' => e = .returned (.bool (charP r)) ∧ Below w.heap.size w w' := by
  by_cases h1 : r = 9
  · subst h1; go_enter Tryd.func9, Tryd.ntmps9; go_wp2; go_ret; exact ⟨rfl, Below.refl _ _⟩
  by_cases h2 : r = 10
  · subst h2; go_enter Tryd.func9, Tryd.ntmps9; go_wp2; go_ret; exact ⟨rfl, Below.refl _ _⟩
  by_cases h3 : r = 13
  · subst h3; go_enter Tryd.func9, Tryd.ntmps9; go_wp2; go_ret; exact ⟨rfl, Below.refl _ _⟩
  have e1 : (r == 9) = false := beq_eq_false_iff_ne.2 h1
  have e2 : (r == 10) = false := beq_eq_false_iff_ne.2 h2
  have e3 : (r == 13) = false := beq_eq_false_iff_ne.2 h3
  have e4 : Hid (charP r = inAny r charL) := by unfold charP Hid; rw [e1, e2, e3]; rfl
  clear h1 h2 h3
  go_enter Tryd.func9, Tryd.ntmps9
  go_wp2_with fail
  refine (in_any r w.heap.size 3 3 charL rfl (by decide) _ (spans_of w charL _ rfl) (by simp)).mono ?_
  rintro e w2 ⟨rfl, hb2⟩
  go_wp2_with fail
  go_ret
  exact ⟨by rw [e4.out]; rfl, ((Below.refl w.heap.size w).alloc (Nat.le_refl _) _).trans (hb2.mono (by simp))⟩

set_option maxHeartbeats 1000000 in
theorem begins_any (r : Int) (w : World) : Calls Tryd.prog 22 #[.int .i32 r] w fun e w' => e = .returned (.bool (beginP r)) ∧ Below w.heap.size w w' := by
  by_cases h1 : r = 95
  · subst h1; go_enter Tryd.func22, Tryd.ntmps22; go_wp2; go_ret; exact ⟨rfl, Below.refl _ _⟩
  have e1 : (r == 95) = false := beq_eq_false_iff_ne.2 h1
  have e4 : Hid (beginP r = inAny r beginL) := by unfold beginP Hid; rw [e1]; rfl
  clear h1
  go_enter Tryd.func22, Tryd.ntmps22
  go_wp2_with fail
  refine (in_any r w.heap.size 14 14 beginL rfl (by decide) _ (spans_of w beginL _ rfl) (by simp)).mono ?_
  rintro e w2 ⟨rfl, hb2⟩
  go_wp2_with fail
  go_ret
  exact ⟨by rw [e4.out]; rfl, ((Below.refl w.heap.size w).alloc (Nat.le_refl _) _).trans (hb2.mono (by simp))⟩

set_option maxHeartbeats 1000000 in
theorem goes_any (r : Int) (w : World) : Calls Tryd.prog 24 #[.int .i32 r] w fun e w' => e = .returned (.bool (goP r)) ∧ Below w.heap.size w w' := by
  cases hB : beginP r with
  | true =>
    have e4 : Hid (goP r = true) := by unfold goP Hid; rw [hB]; rfl
    have HB := Lib.hid hB
    clear hB
    go_enter Tryd.func24, Tryd.ntmps24
    go_wp2_with fail
    refine (begins_any r w).mono ?_
    rw [HB.out]
    rintro e w2 ⟨rfl, hb2⟩
    go_wp2_with fail
    go_ret
    exact ⟨by rw [e4.out]; rfl, hb2⟩
  | false =>
    by_cases h1 : r = 45
    · subst h1
      have HB := Lib.hid hB
      clear hB
      go_enter Tryd.func24, Tryd.ntmps24
      go_wp2_with fail
      refine (begins_any 45 w).mono ?_
      rw [HB.out]
      rintro e w2 ⟨rfl, hb2⟩
      go_wp2_with fail
      go_ret
      exact ⟨rfl, hb2⟩
    by_cases h2 : r = 46
    · subst h2
      have HB := Lib.hid hB
      clear hB
      go_enter Tryd.func24, Tryd.ntmps24
      go_wp2_with fail
      refine (begins_any 46 w).mono ?_
      rw [HB.out]
      rintro e w2 ⟨rfl, hb2⟩
      go_wp2_with fail
      go_ret
      exact ⟨rfl, hb2⟩
    by_cases h3 : r = 183
    · subst h3
      have HB := Lib.hid hB
      clear hB
      go_enter Tryd.func24, Tryd.ntmps24
      go_wp2_with fail
      refine (begins_any 183 w).mono ?_
      rw [HB.out]
      rintro e w2 ⟨rfl, hb2⟩
      go_wp2_with fail
      go_ret
      exact ⟨rfl, hb2⟩
    have e1 : (r == 45) = false := beq_eq_false_iff_ne.2 h1
    have e2 : (r == 46) = false := beq_eq_false_iff_ne.2 h2
    have e3 : (r == 183) = false := beq_eq_false_iff_ne.2 h3
    have e4 : Hid (goP r = inAny r goL) := by unfold goP Hid; rw [hB, e1, e2, e3]; rfl
    have HB := Lib.hid hB
    clear hB h1 h2 h3
    go_enter Tryd.func24, Tryd.ntmps24
    go_wp2_with fail
    refine (begins_any r w).mono ?_
    rw [HB.out]
    rintro e w2 ⟨rfl, hb2⟩
    go_wp2_with fail
    refine (in_any r w2.heap.size 3 3 goL rfl (by decide) _ (spans_of w2 goL _ rfl) (by simp)).mono ?_
    rintro e w3 ⟨rfl, hb3⟩
    go_wp2_with fail
    go_ret
    exact ⟨by rw [e4.out]; rfl, (hb2.alloc hb2.size _).trans (hb3.mono (by simp; exact Nat.le_succ_of_le hb2.size))⟩

theorem blank_any (r : Int) (w : World) : Calls Tryd.prog 20 #[.int .i32 r] w fun e w' => e = .returned (.bool (blankP r)) ∧ w = w' := by
  by_cases h0 : r = 32
  · subst h0; go_enter Tryd.func20, Tryd.ntmps20; go_wp2; go_ret; exact ⟨rfl, rfl⟩
  by_cases h1 : r = 9
  · subst h1; go_enter Tryd.func20, Tryd.ntmps20; go_wp2; go_ret; exact ⟨rfl, rfl⟩
  by_cases h2 : r = 10
  · subst h2; go_enter Tryd.func20, Tryd.ntmps20; go_wp2; go_ret; exact ⟨rfl, rfl⟩
  by_cases h3 : r = 13
  · subst h3; go_enter Tryd.func20, Tryd.ntmps20; go_wp2; go_ret; exact ⟨rfl, rfl⟩
  have e0 : (r == 32) = false := beq_eq_false_iff_ne.2 h0
  have e1 : (r == 9) = false := beq_eq_false_iff_ne.2 h1
  have e2 : (r == 10) = false := beq_eq_false_iff_ne.2 h2
  have e3 : (r == 13) = false := beq_eq_false_iff_ne.2 h3
  have e4 : Hid (blankP r = false) := by unfold blankP Hid; rw [e0, e1, e2, e3]; rfl
  clear h0 h1 h2 h3
  go_enter Tryd.func20, Tryd.ntmps20
  go_wp2
  go_ret
  exact ⟨by rw [e4.out]; rfl, rfl⟩
end Go.Proofs.YthbjibgfhagonaaDoor
