/- The reference's Begins and Goes: what the calls compute, for every number. -/
import Derived.Test.YthbjibgfhagonaaDoorTie2
import Derived.Laws.BitsLemmas
namespace Go.Proofs.YthbjibgfhagonaaDoor
open Go.RowKit
set_option linter.unusedVariables false

def begL : List (Int × Int) := [(192, 214), (216, 246), (248, 767), (880, 893), (895, 8191), (8204, 8205), (8304, 8591), (11264, 12271), (12289, 55295), (63744, 64975), (65008, 65533), (65536, 983039)]
def begA : Array Value := #[.int .i64 192, .int .i64 214, .int .i64 216, .int .i64 246, .int .i64 248, .int .i64 767, .int .i64 880, .int .i64 893, .int .i64 895, .int .i64 8191, .int .i64 8204, .int .i64 8205, .int .i64 8304, .int .i64 8591, .int .i64 11264, .int .i64 12271, .int .i64 12289, .int .i64 55295, .int .i64 63744, .int .i64 64975, .int .i64 65008, .int .i64 65533, .int .i64 65536, .int .i64 983039]
theorem begA_at (j : Nat) (p : Int × Int) (h : begL[j]? = some p) : begA[2 * j]? = some (.int .i64 p.1) ∧ begA[2 * j + 1]? = some (.int .i64 p.2) := by
  have hj : j < 12 := by
    rcases Nat.lt_or_ge j 12 with h1 | h1
    · exact h1
    · rw [List.getElem?_eq_none (by exact h1)] at h; simp at h
  have : j = 0 ∨ j = 1 ∨ j = 2 ∨ j = 3 ∨ j = 4 ∨ j = 5 ∨ j = 6 ∨ j = 7 ∨ j = 8 ∨ j = 9 ∨ j = 10 ∨ j = 11 := by omega
  rcases this with rfl | rfl | rfl | rfl | rfl | rfl | rfl | rfl | rfl | rfl | rfl | rfl <;> (obtain rfl := Option.some.inj h; exact ⟨rfl, rfl⟩)
theorem begin_eq (v : Int) : beginP v = (v == 95 || (inS v 65 90 || (inS v 97 122 || inAny v begL))) := rfl
theorem inAny_take (v : Int) (l : List (Int × Int)) (j : Nat) (p : Int × Int) (h : l[j]? = some p) : inAny v (l.take (j + 1)) = (inAny v (l.take j) || inS v p.1 p.2) := by
  unfold inAny
  rw [List.take_add_one, h, List.any_append]
  simp [inS]
theorem inAny_of (v : Int) (l : List (Int × Int)) (j : Nat) (p : Int × Int) (h : l[j]? = some p) (hs : inS v p.1 p.2 = true) : inAny v l = true := by
  unfold inAny
  rw [List.any_eq_true]
  exact ⟨p, List.mem_of_getElem? h, hs⟩

theorem span_any2 (v a b : Int) (w : World) : Calls Tryd.prog 38 #[.int .i64 v, .int .i64 a, .int .i64 b] w fun e w' => e = .returned (.bool (inS v a b)) ∧ w = w' := (span_any v a b w).mono fun e w' h => ⟨h.1, h.2.symm⟩

set_option maxHeartbeats 2000000 in
set_option maxRecDepth 100000 in
theorem refBegins_any (v : Int) (w : World) : Calls Tryd.prog 23 #[.int .i64 v] w fun e w' => e = .returned (.bool (beginP v)) ∧ Below w.heap.size w w' := by
  have H1 := Lib.hid (fun w => span_any2 v 65 90 w); have H2 := Lib.hid (fun w => span_any2 v 97 122 w)
  cases h1 : inS v 65 90 with
  | true =>
    have e : beginP v = true := by rw [begin_eq, h1]; simp
    rw [e]
    clear e
    have HH := Lib.hid h1
    clear h1
    go_enter Tryd.func23, Tryd.ntmps23
    go_wp2_with (go_at_call_of 38 (Value.int .i64 65); refine (H1.out _).mono ?_; rw [HH.out]; rintro e w1 ⟨rfl, rfl⟩)
    go_ret
    exact ⟨rfl, Below.refl _ _⟩
  | false =>
  have G1 := Lib.hid h1
  cases h2 : inS v 97 122 with
  | true =>
    have e : beginP v = true := by rw [begin_eq, h1, h2]; simp
    rw [e]
    clear e
    have HH := Lib.hid h2
    clear h1 h2
    go_enter Tryd.func23, Tryd.ntmps23
    go_wp2_with (first | (go_at_call_of 38 (Value.int .i64 65); refine (H1.out _).mono ?_; rw [G1.out]; rintro e w1 ⟨rfl, rfl⟩) | (go_at_call_of 38 (Value.int .i64 97); refine (H2.out _).mono ?_; rw [HH.out]; rintro e w1 ⟨rfl, rfl⟩))
    go_ret
    exact ⟨rfl, Below.refl _ _⟩
  | false =>
  have G2 := Lib.hid h2
  by_cases h3 : v = 95
  · have e : beginP v = true := by rw [h3]; rfl
    rw [e]
    clear e h1 h2
    subst h3
    go_enter Tryd.func23, Tryd.ntmps23
    go_wp2_with (first | (go_at_call_of 38 (Value.int .i64 65); refine (H1.out _).mono ?_; rw [G1.out]; rintro e w1 ⟨rfl, rfl⟩) | (go_at_call_of 38 (Value.int .i64 97); refine (H2.out _).mono ?_; rw [G2.out]; rintro e w1 ⟨rfl, rfl⟩))
    go_ret
    exact ⟨rfl, Below.refl _ _⟩
  have e3 : (v == 95) = false := beq_eq_false_iff_ne.2 h3
  have e : beginP v = inAny v begL := by rw [begin_eq, h1, h2, e3]; rfl
  obtain ⟨res, hres⟩ : ∃ res, res = beginP v := ⟨_, rfl⟩
  rw [← hres]
  have HR : Hid (res = inAny v begL) := by rw [hres]; exact Lib.hid e
  clear e hres h1 h2 h3
  have hb0 := (Below.refl w.heap.size w).alloc (Nat.le_refl _) (.cells begA 3)
  have HC0 : Hid (∀ (j : Nat) p, begL[j]? = some p → (w.alloc (.cells begA 3)).cell? ⟨w.heap.size, 2 * j, none⟩ = some (.int .i64 p.1) ∧ (w.alloc (.cells begA 3)).cell? ⟨w.heap.size, 2 * j + 1, none⟩ = some (.int .i64 p.2)) := fun j p h => by
    rw [World.cell?_alloc_mark, World.cell?_alloc_mark]
    exact begA_at j p h
  have HB0 := Lib.hid hb0
  clear hb0
  unfold begA at HC0 HB0
  obtain ⟨g, hg⟩ : ∃ g, g = w.heap.size := ⟨_, rfl⟩
  go_enter Tryd.func23, Tryd.ntmps23
  rw [← hg] at HC0
  have HG := Lib.hid hg
  clear hg
  go_wp2_with (first | (go_at_call_of 38 (Value.int .i64 65); refine (H1.out _).mono ?_; rw [G1.out]; rintro e w1 ⟨rfl, rfl⟩) | (go_at_call_of 38 (Value.int .i64 97); refine (H2.out _).mono ?_; rw [G2.out]; rintro e w1 ⟨rfl, rfl⟩))
  rw [← HG.out]
  obtain ⟨W1, hW1⟩ : ∃ W1, W1 = w.alloc (.cells #[.int .i64 192, .int .i64 214, .int .i64 216, .int .i64 246, .int .i64 248, .int .i64 767, .int .i64 880, .int .i64 893, .int .i64 895, .int .i64 8191, .int .i64 8204, .int .i64 8205, .int .i64 8304, .int .i64 8591, .int .i64 11264, .int .i64 12271, .int .i64 12289, .int .i64 55295, .int .i64 63744, .int .i64 64975, .int .i64 65008, .int .i64 65533, .int .i64 65536, .int .i64 983039] 3) := ⟨_, rfl⟩
  rw [← hW1] at HC0 HB0 ⊢
  clear hW1
  go_loopw [4] (fun iv wr => ∃ j J : Nat, iv = .int .i64 J ∧ j ≤ 12 ∧ Hid (J = 2 * j) ∧ Hid (inAny v (begL.take j) = false) ∧ Below W1.heap.size W1 wr) (fun iv _ => 24 - (intOf iv).toNat)
  case atStart => exact ⟨0, 0, rfl, by omega, Lib.hid rfl, Lib.hid rfl, Below.refl _ _⟩
  case round =>
    obtain ⟨j, J, rfl, hj, HJ, HA, hbw⟩ := hrel
    by_cases hlt : j < 12
    · obtain ⟨p, hp⟩ : ∃ p, begL[j]? = some p := ⟨begL[j]'(by exact hlt), List.getElem?_eq_getElem (by exact hlt)⟩
      obtain ⟨d1, d2⟩ := HC0.out j p hp
      obtain ⟨A, hA⟩ : ∃ A, A = p.1 := ⟨_, rfl⟩
      obtain ⟨B, hB⟩ : ∃ B, B = p.2 := ⟨_, rfl⟩
      have g1 : wr.cell? ⟨g, J, none⟩ = some (.int .i64 A) := by rw [HJ.out, hA]; exact cell_at hbw d1
      obtain ⟨K, hK⟩ : ∃ K, K = J + 1 := ⟨_, rfl⟩
      have g2 : wr.cell? ⟨g, K, none⟩ = some (.int .i64 B) := by rw [hK, HJ.out, hB]; exact cell_at hbw d2
      have eW : IntKind.i64.wrap ((J : Int) + 1) = (K : Int) := by rw [IntKind.wrap_i64]; have := HJ.out; omega
      have hJ24 : J < 23 := by have := HJ.out; omega
      have i1 : (0 : Int) ≤ (J : Int) := by omega
      have i2 : (J : Int) < 24 := by omega
      have i3 : (0 : Int) ≤ (K : Int) := by omega
      have i4 : (K : Int) < 24 := by omega
      have HS := Lib.hid (fun w => span_any2 v A B w)
      have ht := inAny_take v begL j p hp
      have ho := inAny_of v begL j p hp
      rw [← hA, ← hB] at ht ho
      clear d1 d2 hA hB hp hK
      cases hs : inS v A B with
      | true =>
        have HE : Hid (res = true) := by unfold Hid; rw [HR.out, ho hs]
        have HH : Hid (∀ w, Calls Tryd.prog 38 #[.int .i64 v, .int .i64 A, .int .i64 B] w fun e w' => e = .returned (.bool true) ∧ w' = w) := fun w => by rw [← hs]; exact span_any v A B w
        clear ht ho hs
        go_wp2
        go_quiet (first | (go_at_call 38; refine Calls.quiet_of_same (HH.out _)))
        go_wp2
        go_ret
        exact ⟨by rw [HE.out]; rfl, HB0.out.trans ((Below.drewN hbw _).mono HB0.out.size)⟩
      | false =>
        have HA2 : Hid (inAny v (begL.take (j + 1)) = false) := by unfold Hid; rw [ht, HA.out, hs]; rfl
        have HH : Hid (∀ w, Calls Tryd.prog 38 #[.int .i64 v, .int .i64 A, .int .i64 B] w fun e w' => e = .returned (.bool false) ∧ w' = w) := fun w => by rw [← hs]; exact span_any v A B w
        have HJ2 : Hid (J + 2 = 2 * (j + 1)) := by unfold Hid; have := HJ.out; omega
        clear ht ho hs
        go_wp2
        go_quiet (first | (go_at_call 38; refine Calls.quiet_of_same (HH.out _)))
        go_wp2
        go_roundw
        case rel => exact ⟨j + 1, J + 2, by simp, by omega, HJ2, HA2, Below.drewN hbw _⟩
        case measure => simp [intOf]; omega
    · have HE : Hid (res = false) := by
        unfold Hid
        have := HA.out
        rw [List.take_of_length_le (by show 12 ≤ j; omega)] at this
        rw [HR.out, this]
      have hJ24 : J = 24 := by have := HJ.out; omega
      subst hJ24
      go_wp2
      go_ret
      exact ⟨by rw [HE.out]; rfl, HB0.out.trans (hbw.mono HB0.out.size)⟩
end Go.Proofs.YthbjibgfhagonaaDoor
