/- The reference's Goes: what the call computes, for every number. -/
import Derived.Test.YthbjibgfhagonaaDoorRefC
namespace Go.Proofs.YthbjibgfhagonaaDoor
open Go.RowKit
set_option linter.unusedVariables false

theorem go_eq (v : Int) : goP v = (beginP v || (inS v 48 57 || (v == 45 || (v == 46 || (v == 183 || (inS v 768 879 || inS v 8255 8256)))))) := by
  have : goP v = (beginP v || v == 45 || v == 46 || v == 183 || (inS v 48 57 || (inS v 768 879 || (inS v 8255 8256 || false)))) := rfl
  rw [this, Bool.or_false]
  cases beginP v <;> cases inS v 48 57 <;> cases (v == 45) <;> cases (v == 46) <;> cases (v == 183) <;> rfl

set_option maxHeartbeats 4000000 in
theorem refGoes_any (v : Int) (w : World) : Calls Tryd.prog 25 #[.int .i64 v] w fun e w' => e = .returned (.bool (goP v)) ∧ Below w.heap.size w w' := by
  rw [go_eq]
  have HB := Lib.hid (refBegins_any v w)
  have H1 := Lib.hid (fun w => span_any2 v 48 57 w); have H2 := Lib.hid (fun w => span_any2 v 768 879 w); have H3 := Lib.hid (fun w => span_any2 v 8255 8256 w)
  generalize beginP v = B at HB
  generalize inS v 48 57 = s1 at H1
  generalize inS v 768 879 = s2 at H2
  generalize inS v 8255 8256 = s3 at H3
  cases B
  case true =>
    go_enter Tryd.func25, Tryd.ntmps25
    go_wp2_with (go_at_call 23; refine HB.out.mono ?_; rintro e w1 ⟨rfl, hb1⟩)
    go_ret
    exact ⟨rfl, hb1⟩
  cases s1
  case true =>
    go_enter Tryd.func25, Tryd.ntmps25
    go_wp2_with (first | (go_at_call 23; refine HB.out.mono ?_; rintro e w1 ⟨rfl, hb1⟩) | (go_at_call_of 38 (Value.int .i64 48); refine (H1.out _).mono ?_; rintro e w2 ⟨rfl, rfl⟩))
    go_ret
    exact ⟨rfl, hb1⟩
  cases h45 : (v == 45)
  case true =>
    go_enter Tryd.func25, Tryd.ntmps25
    go_wp2_with (first | (go_at_call 23; refine HB.out.mono ?_; rintro e w1 ⟨rfl, hb1⟩) | (go_at_call_of 38 (Value.int .i64 48); refine (H1.out _).mono ?_; rintro e w2 ⟨rfl, rfl⟩))
    go_ret
    exact ⟨rfl, hb1⟩
  cases h46 : (v == 46)
  case true =>
    go_enter Tryd.func25, Tryd.ntmps25
    go_wp2_with (first | (go_at_call 23; refine HB.out.mono ?_; rintro e w1 ⟨rfl, hb1⟩) | (go_at_call_of 38 (Value.int .i64 48); refine (H1.out _).mono ?_; rintro e w2 ⟨rfl, rfl⟩))
    go_ret
    exact ⟨rfl, hb1⟩
  cases h183 : (v == 183)
  case true =>
    go_enter Tryd.func25, Tryd.ntmps25
    go_wp2_with (first | (go_at_call 23; refine HB.out.mono ?_; rintro e w1 ⟨rfl, hb1⟩) | (go_at_call_of 38 (Value.int .i64 48); refine (H1.out _).mono ?_; rintro e w2 ⟨rfl, rfl⟩))
    go_ret
    exact ⟨rfl, hb1⟩
  cases s2
  all_goals
    go_enter Tryd.func25, Tryd.ntmps25
    go_wp2_with (first | (go_at_call 23; refine HB.out.mono ?_; rintro e w1 ⟨rfl, hb1⟩) | (go_at_call_of 38 (Value.int .i64 48); refine (H1.out _).mono ?_; rintro e w2 ⟨rfl, rfl⟩) | (go_at_call_of 38 (Value.int .i64 768); refine (H2.out _).mono ?_; rintro e w2 ⟨rfl, rfl⟩) | (go_at_call_of 38 (Value.int .i64 8255); refine (H3.out _).mono ?_; rintro e w2 ⟨rfl, rfl⟩))
    go_ret
    exact ⟨rfl, hb1⟩

/-- The reference's check. -/
theorem refCheck_any (a : Option Addr) (n cap : Nat) (bs : List UInt8) (w : World) (hl : bs.length = n) (hn : n ≤ 1000000) (hb : Bytes w a bs) :
    Calls Tryd.prog 15 #[.slice a n cap] w fun e w' => e = .returned (.tuple #[.int .i64 (checkP bs).1, .bool (checkP bs).2]) ∧ Below w.heap.size w w' := by
  have HL := Lib.hid hl; have HB := Lib.hid hb
  obtain ⟨res, hres⟩ : ∃ res, res = checkP bs := ⟨_, rfl⟩
  rw [← hres]
  have H0 : Hid (allP (fun r _ => charP r) bs (n + 1) 0 = res) := by rw [hres, ← hl]; exact Lib.hid rfl
  clear hl hb hres
  go_enter Tryd.func15, Tryd.ntmps15
  go_wp2
  go_loopw [4] (fun i wr => ∃ k f : Nat, k ≤ n ∧ i = .int .i64 k ∧ n < k + f ∧ Hid (allP (fun r _ => charP r) bs f k = res) ∧ Below w.heap.size w wr) (fun i _ => n - (intOf i).toNat)
  case atStart => exact ⟨0, n + 1, by omega, rfl, by omega, H0, Below.refl _ _⟩
  case round =>
    clear H0
    obtain ⟨k, f, hk, rfl, hf, hA, hbw⟩ := hrel
    obtain ⟨f, rfl⟩ : ∃ g, f = g + 1 := ⟨f - 1, by omega⟩
    by_cases hlt : k < n
    · have hbd := nextP_bound bs k (by rw [HL.out]; exact hlt)
      rw [HL.out] at hbd
      have hA' := hA.out
      rw [allP, if_neg (by rw [HL.out]; omega)] at hA'
      have hN := refNext_any a n cap k bs wr HL.out hn (HB.out.below hbw)
      generalize nextP bs k = d at hbd hA' hN
      obtain ⟨R, K⟩ := d
      simp only at hbd hA' hN
      obtain ⟨hb1, hb2⟩ := hbd
      have HN := Lib.hid hN
      clear hN hA
      by_cases hK : K = 0
      · rw [if_pos hK] at hA'
        have HA := Lib.hid hA'
        subst hK
        clear hA'
        go_wp2_with (go_at_call 14; refine HN.out.mono ?_; rintro e w1 ⟨rfl, hbn⟩)
        go_ret2
        exact ⟨by rw [← HA.out]; rfl, hbw.trans (hbn.mono hbw.size)⟩
      · rw [if_neg hK] at hA'
        have hK1 : 1 ≤ K := by omega
        have hK2 : (K == 0) = false := beq_eq_false_iff_ne.2 hK
        cases hC : charP R with
        | false =>
          rw [if_pos hC] at hA'
          have HA := Lib.hid hA'; have HC := Lib.hid hC
          clear hA' hK hC
          go_wp2_with (first | (go_at_call 14; refine HN.out.mono ?_; rintro e w1 ⟨rfl, hbn⟩) | (go_at_call 19; refine (refChar_any R _).mono ?_; rw [HC.out]; rintro e w2 ⟨rfl, rfl⟩))
          go_ret2
          exact ⟨by rw [← HA.out]; rfl, hbw.trans (hbn.mono hbw.size)⟩
        | true =>
          rw [if_neg (by rw [hC]; simp)] at hA'
          have HA := Lib.hid hA'; have HC := Lib.hid hC
          clear hA' hK hC
          go_wp2_with (first | (go_at_call 14; refine HN.out.mono ?_; rintro e w1 ⟨rfl, hbn⟩) | (go_at_call 19; refine (refChar_any R _).mono ?_; rw [HC.out]; rintro e w2 ⟨rfl, rfl⟩))
          have b1 := hbw.trans (hbn.mono hbw.size)
          go_roundw
          case rel => exact ⟨k + K.toNat, f, by omega, by congr 1; omega, by omega, HA, b1⟩
          case measure => simp [intOf]; omega
    · have hA' := hA.out
      rw [allP, if_pos (by rw [HL.out]; omega)] at hA'
      have HA := Lib.hid hA'
      clear hA hA'
      go_wp2
      go_ret2
      exact ⟨by rw [← HA.out]; rfl, hbw⟩
end Go.Proofs.YthbjibgfhagonaaDoor
