/- Are all signs of bytes so: what the calls compute, for all bytes (Check), and a text's name (Name's function). -/
import Derived.Test.YthbjibgfhagonaaDoorNext
namespace Go.Proofs.YthbjibgfhagonaaDoor
open Go.RowKit
set_option linter.unusedVariables false

def allP (so : Int → Int → Bool) (bs : List UInt8) : Nat → Nat → Int × Bool
  | 0, _ => (0, true)
  | f + 1, k => if bs.length ≤ k then (0, true) else
    if (nextP bs k).2 = 0 then (k, false) else if so (nextP bs k).1 k = false then (k, false) else allP so bs f (k + (nextP bs k).2.toNat)
def checkP (bs : List UInt8) : Int × Bool := allP (fun r _ => charP r) bs (bs.length + 1) 0
def nameSo (r k : Int) : Bool := beginP r || (decide (0 < k) && goP r)

theorem dec_bound (n z0 z1 z2 z3 : Int) (h : 1 ≤ n) : 0 ≤ (dec n z0 z1 z2 z3).2 ∧ (dec n z0 z1 z2 z3).2 ≤ n := by
  unfold dec
  rw [if_neg (by omega)]
  split
  · exact ⟨by omega, h⟩
  split
  · exact ⟨by omega, h⟩
  split
  · split
    · exact ⟨by omega, h⟩
    · exact ⟨by omega, by omega⟩
  split
  · split
    · exact ⟨by omega, h⟩
    · exact ⟨by omega, by omega⟩
  split
  · exact ⟨by omega, h⟩
  split
  · exact ⟨by omega, h⟩
  · exact ⟨by omega, by omega⟩
theorem nextP_bound (bs : List UInt8) (k : Nat) (h : k < bs.length) : 0 ≤ (nextP bs k).2 ∧ (k : Int) + (nextP bs k).2 ≤ bs.length := by
  unfold nextP
  rw [if_neg (by omega), Int.toNat_natCast]
  split
  · exact ⟨by omega, by simp only; omega⟩
  · have hb := dec_bound ((bs.drop k).length : Int) (byt ((bs.drop k)[0]?.getD 0)) (byt ((bs.drop k)[1]?.getD 0)) (byt ((bs.drop k)[2]?.getD 0)) (byt ((bs.drop k)[3]?.getD 0)) (by rw [List.length_drop]; omega)
    unfold decB
    refine ⟨hb.1, ?_⟩
    have := hb.2
    rw [List.length_drop] at this ⊢
    omega

theorem check1_any (r k : Int) (w : World) : Calls Tryd.prog 36 #[.int .i32 r, .int .i64 k] w fun e w' => e = .returned (.bool (charP r)) ∧ Below w.heap.size w w' := by
  go_enter Tryd.func36, Tryd.ntmps36
  go_wp2_with (go_at_call 9; refine (char_any r _).mono ?_; rintro e w1 ⟨rfl, hb1⟩)
  go_ret
  exact ⟨rfl, hb1⟩

theorem name1_any (r k : Int) (w : World) : Calls Tryd.prog 39 #[.int .i32 r, .int .i64 k] w fun e w' => e = .returned (.bool (nameSo r k)) ∧ Below w.heap.size w w' := by
  cases hB : beginP r with
  | true =>
    have e4 : Hid (nameSo r k = true) := by unfold nameSo Hid; rw [hB]; rfl
    have HB := Lib.hid hB
    clear hB
    go_enter Tryd.func39, Tryd.ntmps39
    go_wp2_with fail
    refine (begins_any r w).mono ?_
    rw [HB.out]
    rintro e w2 ⟨rfl, hb2⟩
    go_wp2_with fail
    go_ret
    exact ⟨by rw [e4.out]; rfl, hb2⟩
  | false =>
    have HB := Lib.hid hB
    by_cases hk : 0 < k
    · have e4 : Hid (nameSo r k = goP r) := by unfold nameSo Hid; rw [hB, decide_eq_true hk]; rfl
      clear hB
      go_enter Tryd.func39, Tryd.ntmps39
      go_wp2_with fail
      refine (begins_any r w).mono ?_
      rw [HB.out]
      rintro e w2 ⟨rfl, hb2⟩
      go_wp2_with fail
      refine (goes_any r w2).mono ?_
      rintro e w3 ⟨rfl, hb3⟩
      go_wp2_with fail
      go_ret
      exact ⟨by rw [e4.out]; rfl, hb2.trans (hb3.mono hb2.size)⟩
    · have e4 : Hid (nameSo r k = false) := by unfold nameSo Hid; rw [hB, decide_eq_false hk]; rfl
      have hk' : decide (0 < k) = false := decide_eq_false hk
      clear hB
      go_enter Tryd.func39, Tryd.ntmps39
      go_wp2_with fail
      refine (begins_any r w).mono ?_
      rw [HB.out]
      rintro e w2 ⟨rfl, hb2⟩
      go_wp2_with fail
      go_ret
      exact ⟨by rw [e4.out]; rfl, hb2⟩

theorem Tabs.below {w w' : World} (h : Tabs w) (h2 : 2 ≤ w.heap.size) (hb : Below w.heap.size w w') : Tabs w' :=
  ⟨fun i hi => by rw [hb.cell (p := ⟨0, i, none⟩) (by simp; omega)]; exact h.1 i hi, fun i hi => ⟨by rw [hb.cell (p := ⟨1, i * 2, none⟩) (by simp; omega)]; exact (h.2 i hi).1, by rw [hb.cell (p := ⟨1, i * 2 + 1, none⟩) (by simp; omega)]; exact (h.2 i hi).2⟩⟩
theorem Tabs.size {w : World} (h : Tabs w) : 2 ≤ w.heap.size := by
  have := block_lt_of_cell (h.2 0 (by omega)).1
  exact this

set_option maxHeartbeats 1000000 in
theorem all_check (a : Option Addr) (n cap : Nat) (bs : List UInt8) (w : World) (hl : bs.length = n) (hn : n ≤ 9223372036854775807) (hcap : n ≤ cap) (hb : Bytes w a bs) (hT : Tabs w) :
    Calls Tryd.prog 35 #[.slice a n cap, .func (.func 36) #[] #[]] w fun e w' => e = .returned (.tuple #[.int .i64 (checkP bs).1, .bool (checkP bs).2]) ∧ Below w.heap.size w w' := by
  have HL := Lib.hid hl; have HB := Lib.hid hb; have HT := Lib.hid hT
  obtain ⟨res, hres⟩ : ∃ res, res = checkP bs := ⟨_, rfl⟩
  rw [← hres]
  have H0 : Hid (allP (fun r _ => charP r) bs (n + 1) 0 = res) := by rw [hres, ← hl]; exact Lib.hid rfl
  clear hl hb hT hres
  go_enter Tryd.func35, Tryd.ntmps35
  go_wp2
  go_loopw [6] (fun i wr => ∃ k f : Nat, k ≤ n ∧ i = .int .i64 k ∧ n < k + f ∧ Hid (allP (fun r _ => charP r) bs f k = res) ∧ Below w.heap.size w wr) (fun i _ => n - (intOf i).toNat)
  case atStart => exact ⟨0, n + 1, by omega, rfl, by omega, H0, Below.refl _ _⟩
  case round =>
    clear H0
    obtain ⟨k, f, hk, rfl, hf, hA, hbw⟩ := hrel
    obtain ⟨f, rfl⟩ : ∃ g, f = g + 1 := ⟨f - 1, by omega⟩
    by_cases hlt : k < n
    · have hbd := nextP_bound bs k (by rw [HL.out]; exact hlt)
      rw [HL.out] at hbd
      have hA' := hA.out
      rw [allP, if_neg (by rw [HL.out]; omega)] at hA'
      have hN := next_any a n cap k bs wr HL.out hn hcap (HB.out.below hbw) (HT.out.below HT.out.size hbw)
      generalize nextP bs k = d at hbd hA' hN
      obtain ⟨R, K⟩ := d
      simp only at hbd hA' hN
      obtain ⟨hb1, hb2⟩ := hbd
      have HN := Lib.hid hN
      clear hN hA
      by_cases hK : K = 0
      · rw [if_pos hK] at hA'
        have HA := Lib.hid hA'
        subst hK
        clear hA'
        go_wp2_with (go_at_call 13; refine HN.out.mono ?_; rintro e w1 ⟨rfl, hbn⟩)
        go_ret2
        exact ⟨by rw [← HA.out]; rfl, hbw.trans (hbn.mono hbw.size)⟩
      · rw [if_neg hK] at hA'
        have hK1 : 1 ≤ K := by omega
        have hK2 : (K == 0) = false := beq_eq_false_iff_ne.2 hK
        cases hC : charP R with
        | false =>
          rw [if_pos hC] at hA'
          have HA := Lib.hid hA'; have HC := Lib.hid hC
          clear hA' hK hC
          go_wp2_with (first | (go_at_call 13; refine HN.out.mono ?_; rintro e w1 ⟨rfl, hbn⟩) | (go_at_call 36; refine (check1_any R k _).mono ?_; rw [HC.out]; rintro e w2 ⟨rfl, hbm⟩))
          go_ret2
          have b1 := hbw.trans (hbn.mono hbw.size)
          exact ⟨by rw [← HA.out]; rfl, b1.trans (hbm.mono b1.size)⟩
        | true =>
          rw [if_neg (by rw [hC]; simp)] at hA'
          have HA := Lib.hid hA'; have HC := Lib.hid hC
          clear hA' hK hC
          go_wp2_with (first | (go_at_call 13; refine HN.out.mono ?_; rintro e w1 ⟨rfl, hbn⟩) | (go_at_call 36; refine (check1_any R k _).mono ?_; rw [HC.out]; rintro e w2 ⟨rfl, hbm⟩))
          have b1 := hbw.trans (hbn.mono hbw.size)
          have b2 := b1.trans (hbm.mono b1.size)
          go_roundw
          case rel => exact ⟨k + K.toNat, f, by omega, by congr 1; omega, by omega, HA, b2⟩
          case measure => simp [intOf]; omega
    · have hA' := hA.out
      rw [allP, if_pos (by rw [HL.out]; omega)] at hA'
      have HA := Lib.hid hA'
      clear hA hA'
      go_wp2
      go_ret2
      exact ⟨by rw [← HA.out]; rfl, hbw⟩
end Go.Proofs.YthbjibgfhagonaaDoor
