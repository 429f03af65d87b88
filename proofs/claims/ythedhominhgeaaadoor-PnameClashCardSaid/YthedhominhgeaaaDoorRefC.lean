/- Do two names clash, by the document's answer: what the call computes. -/
import Derived.Test.YthedhominhgeaaaDoorRefF
namespace Go.Proofs.YthedhominhgeaaaDoor
open Go.RowKit
set_option linter.unusedVariables false
attribute [local go_sem] nat_byt str_size str_get str_from str_to str_list lit_list

theorem prefix_is (s : List UInt8) : ∀ t : List UInt8, List.isPrefixOf (s ++ [47]) t = (decide (s.length < t.length) && (t.take s.length == s) && (t[s.length]? == some 47)) := by
  induction s with
  | nil =>
    intro t
    cases t with
    | nil => rfl
    | cons b r =>
      by_cases h : b = 47
      · subst h; rfl
      · have h2 : ¬ (47 : UInt8) = b := fun e => h e.symm
        have e1 : ((47 : UInt8) == b) = false := beq_eq_false_iff_ne.2 h2
        have e2 : (b == (47 : UInt8)) = false := beq_eq_false_iff_ne.2 h
        simp [List.isPrefixOf, e1, e2]
  | cons a s ih =>
    intro t
    cases t with
    | nil => rfl
    | cons b r =>
      have h1 : List.isPrefixOf (a :: s ++ [47]) (b :: r) = ((a == b) && List.isPrefixOf (s ++ [47]) r) := rfl
      rw [h1, ih r]
      have h2 : decide ((a :: s).length < (b :: r).length) = decide (s.length < r.length) := by simp
      have h3 : ((b :: r).take (a :: s).length == a :: s) = ((b == a) && (r.take s.length == s)) := rfl
      have h4 : (b :: r)[(a :: s).length]? = r[s.length]? := rfl
      rw [h2, h3, h4]
      have h5 : (a == b) = (b == a) := by
        by_cases h : a = b
        · subst h; rfl
        · rw [beq_eq_false_iff_ne.2 h, beq_eq_false_iff_ne.2 (Ne.symm h)]
      rw [h5]
      cases (b == a) <;> cases decide (s.length < r.length) <;> simp
theorem prefix_not {s t : List UInt8} (h : t.length ≤ s.length) : List.isPrefixOf (s ++ [47]) t = false := by
  rw [prefix_is, decide_eq_false (by omega)]; rfl

set_option maxHeartbeats 2000000 in
theorem refClash_any (a b : List UInt8) (w : World) (ha : a.length ≤ 1000000) (hb : b.length ≤ 1000000) : Calls Tryd.prog 23 #[.string (str a), .string (str b)] w fun e w' => e = .returned (.bool (clashB a b)) ∧ Below w.heap.size w w' := by
  have H1 := Lib.hid (fun w => refFold_any a w ha)
  have H2 := Lib.hid (fun w => refFold_any b w hb)
  unfold clashB
  have la : (foldL a).length ≤ 1000000 := by rw [foldL_len]; exact ha
  have lb : (foldL b).length ≤ 1000000 := by rw [foldL_len]; exact hb
  generalize foldL a = x at *
  generalize foldL b = y at *
  have HB0 : Hid (Below w.heap.size w w) := Lib.hid (Below.refl _ _)
  cases hxy : x == y with
  | true =>
    go_enter Tryd.func23, Tryd.ntmps23
    go_wp2_with fail
    refine (H1.out _).mono ?_
    rintro e w1 ⟨rfl, h1⟩
    go_wp2_with fail
    refine (H2.out _).mono ?_
    rintro e w2 ⟨rfl, h2⟩
    go_wp2_with fail
    go_ret
    exact ⟨rfl, below_step h1 h2⟩
  | false =>
    by_cases h1 : y.length < x.length
    · rw [prefix_not (s := x) (t := y) (by omega), prefix_is y x, decide_eq_true h1]
      have i1 : (y.length : Int) < (x.length : Int) := by omega
      obtain ⟨c, hc⟩ : ∃ c, x[y.length]? = some c := ⟨x[y.length], List.getElem?_eq_getElem h1⟩
      have e0 : ∀ h : y.length < x.length, x[y.length]'h = c := fun h => by rw [List.getElem?_eq_getElem h] at hc; exact Option.some.inj hc
      have hcq : (x[y.length]? == some 47) = (byt c == 47) := by
        rw [hc]
        by_cases h : c = 47
        · subst h; rfl
        · have : ¬ byt c = 47 := fun e => h (byt_inj e)
          rw [beq_eq_false_iff_ne.2 this, beq_eq_false_iff_ne]; simpa using h
      rw [hcq]
      have hxl : y.length ≤ x.length := by omega
      clear hc hcq
      cases ht : x.take y.length == y with
      | false =>
        go_enter Tryd.func23, Tryd.ntmps23
        go_wp2_with fail
        refine (H1.out _).mono ?_
        rintro e w1 ⟨rfl, h1⟩
        go_wp2_with fail
        refine (H2.out _).mono ?_
        rintro e w2 ⟨rfl, h2⟩
        go_wp2_with fail
        go_ret
        exact ⟨rfl, below_step h1 h2⟩
      | true =>
        go_enter Tryd.func23, Tryd.ntmps23
        go_wp2_with fail
        refine (H1.out _).mono ?_
        rintro e w1 ⟨rfl, h1⟩
        go_wp2_with fail
        refine (H2.out _).mono ?_
        rintro e w2 ⟨rfl, h2⟩
        go_wp2_with fail
        go_ret
        exact ⟨rfl, below_step h1 h2⟩
    · have i0 : ¬ (y.length : Int) < (x.length : Int) := by omega
      rw [prefix_not (s := y) (t := x) (by omega)]
      by_cases h2 : x.length < y.length
      · rw [prefix_is x y, decide_eq_true h2]
        have i1 : (x.length : Int) < (y.length : Int) := by omega
        obtain ⟨c, hc⟩ : ∃ c, y[x.length]? = some c := ⟨y[x.length], List.getElem?_eq_getElem h2⟩
        have e0 : ∀ h : x.length < y.length, y[x.length]'h = c := fun h => by rw [List.getElem?_eq_getElem h] at hc; exact Option.some.inj hc
        have hcq : (y[x.length]? == some 47) = (byt c == 47) := by
          rw [hc]
          by_cases h : c = 47
          · subst h; rfl
          · have : ¬ byt c = 47 := fun e => h (byt_inj e)
            rw [beq_eq_false_iff_ne.2 this, beq_eq_false_iff_ne]; simpa using h
        rw [hcq]
        have hxl : x.length ≤ y.length := by omega
        clear hc hcq
        cases ht : y.take x.length == x with
        | false =>
          go_enter Tryd.func23, Tryd.ntmps23
          go_wp2_with fail
          refine (H1.out _).mono ?_
          rintro e w1 ⟨rfl, h1⟩
          go_wp2_with fail
          refine (H2.out _).mono ?_
          rintro e w2 ⟨rfl, h2⟩
          go_wp2_with fail
          go_ret
          exact ⟨rfl, below_step h1 h2⟩
        | true =>
          go_enter Tryd.func23, Tryd.ntmps23
          go_wp2_with fail
          refine (H1.out _).mono ?_
          rintro e w1 ⟨rfl, h1⟩
          go_wp2_with fail
          refine (H2.out _).mono ?_
          rintro e w2 ⟨rfl, h2⟩
          go_wp2_with fail
          go_ret
          exact ⟨by simp, below_step h1 h2⟩
      · rw [prefix_not (s := x) (t := y) (by omega)]
        have i1 : ¬ (x.length : Int) < (y.length : Int) := by omega
        go_enter Tryd.func23, Tryd.ntmps23
        go_wp2_with fail
        refine (H1.out _).mono ?_
        rintro e w1 ⟨rfl, h1⟩
        go_wp2_with fail
        refine (H2.out _).mono ?_
        rintro e w2 ⟨rfl, h2⟩
        go_wp2_with fail
        go_ret
        exact ⟨rfl, below_step h1 h2⟩
end Go.Proofs.YthedhominhgeaaaDoor
