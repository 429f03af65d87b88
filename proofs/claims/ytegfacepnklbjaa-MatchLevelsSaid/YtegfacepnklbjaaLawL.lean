/- The walk of MatchLevels: it returns true for all bytes, however often they come again, at each level. -/
import Derived.Test.YtegfacepnklbjaaAlive
namespace Go.Proofs.Ytegfacepnklbjaa
open Go.RowKit Go.Maps
set_option linter.unusedVariables false

/-- Bytes, so many times. -/
def reps (bs : List UInt8) : Nat → List UInt8
  | 0 => []
  | k + 1 => reps bs k ++ bs
theorem reps_len (bs : List UInt8) (k : Nat) : (reps bs k).length = k * bs.length := by
  induction k with
  | zero => simp [reps]
  | succ k ih => simp [reps, ih, Nat.succ_mul]
theorem reps_two (bs : List UInt8) (k : Nat) : reps bs (k + 2) = bs ++ (bs ++ reps bs k) := by
  induction k with
  | zero => simp [reps]
  | succ k ih => rw [show k + 1 + 2 = (k + 2) + 1 from rfl, reps, ih, reps]; simp
theorem reps_again {bs : List UInt8} {k : Nat} (h : 4 ≤ bs.length) (hk : 2 ≤ k) : Again (reps bs k) bs.length := by
  obtain ⟨j, rfl⟩ : ∃ j, k = j + 2 := ⟨k - 2, by omega⟩
  rw [reps_two]
  refine ⟨by simp; omega, 0, by omega, fun i hi => ?_⟩
  rw [List.getElem?_append_left (by omega), List.getElem?_append_right (by omega), List.getElem?_append_left (by omega)]
  congr 1; omega
theorem reps_short {bs : List UInt8} {k : Nat} {lv : Int} {ts : List Tk} (h : Found (reps bs k) lv ts) (hl : 1 ≤ lv) (hb : 4 ≤ bs.length) (hk : 2 ≤ k) : ts.length < k * bs.length := by
  rcases h.some hl with ⟨t, h1, h2⟩ | h1
  · have := ends_lt (p := 0) (ts := ts) ⟨t, h1, by omega⟩
    rw [h.ends, reps_len] at this
    omega
  · exact absurd (reps_again hb hk) (h1 _)

theorem levels_out (a : Option Addr) (n cap : Nat) (ti lv : Int) (w : World) (hn2 : n ≤ 9223372036854775807) (h : n < 4 ∨ 200 < n ∨ ti < 2 ∨ 20 < ti ∨ lv < 1 ∨ 9 < lv) :
    Calls Try.prog 4 #[.slice a n cap, .int .i64 ti, .int .i64 lv] w fun e w' => e = .returned (.bool true) ∧ Below w.heap.size w w' := by
  have HA := Lib.hid (alive_any w)
  have HH := Lib.hid h
  clear h
  by_cases h1 : n < 4
  · have f1 : (n : Int) < 4 := by omega
    go_enter Try.func4, Try.ntmps4
    go_wp2_with (go_at_call 6; refine HA.out.mono ?_; rintro e w1 ⟨rfl, hb1⟩)
    go_ret
    exact ⟨rfl, hb1⟩
  have f1 : ¬ (n : Int) < 4 := by omega
  by_cases h2 : 200 < n
  · have f2 : (200 : Int) < (n : Int) := by omega
    go_enter Try.func4, Try.ntmps4
    go_wp2_with (go_at_call 6; refine HA.out.mono ?_; rintro e w1 ⟨rfl, hb1⟩)
    go_ret
    exact ⟨rfl, hb1⟩
  have f2 : ¬ (200 : Int) < (n : Int) := by omega
  by_cases h3 : ti < 2
  · go_enter Try.func4, Try.ntmps4
    go_wp2_with (go_at_call 6; refine HA.out.mono ?_; rintro e w1 ⟨rfl, hb1⟩)
    go_ret
    exact ⟨rfl, hb1⟩
  by_cases h4 : 20 < ti
  · go_enter Try.func4, Try.ntmps4
    go_wp2_with (go_at_call 6; refine HA.out.mono ?_; rintro e w1 ⟨rfl, hb1⟩)
    go_ret
    exact ⟨rfl, hb1⟩
  by_cases h5 : lv < 1
  · go_enter Try.func4, Try.ntmps4
    go_wp2_with (go_at_call 6; refine HA.out.mono ?_; rintro e w1 ⟨rfl, hb1⟩)
    go_ret
    exact ⟨rfl, hb1⟩
  have h6 : 9 < lv := by have := HH.out; omega
  go_enter Try.func4, Try.ntmps4
  go_wp2_with (go_at_call 6; refine HA.out.mono ?_; rintro e w1 ⟨rfl, hb1⟩)
  go_ret
  exact ⟨rfl, hb1⟩

set_option maxRecDepth 100000 in
set_option maxHeartbeats 2000000 in
theorem levels_walk (a : Option Addr) (n cap ti : Nat) (lv : Int) (bs : List UInt8) (w : World) (hl : bs.length = n) (hn : 4 ≤ n ∧ n ≤ 200) (ht : 2 ≤ ti ∧ ti ≤ 20) (hlv : 1 ≤ lv ∧ lv ≤ 9) (hnil : a = none → n = 0 ∧ cap = 0) (hb : Bytes w a bs) :
    Calls Try.prog 4 #[.slice a n cap, .int .i64 ti, .int .i64 lv] w fun e w' => e = .returned (.bool true) ∧ Below w.heap.size w w' := by
  have HA := Lib.hid (alive_any w)
  have HL := Lib.hid hl; have HB := Lib.hid hb; have HN := Lib.hid hnil
  obtain ⟨n1, n2⟩ := hn; obtain ⟨t1, t2⟩ := ht; obtain ⟨l1, l2⟩ := hlv
  have f1 : ¬ (n : Int) < 4 := by omega
  have f2 : ¬ (200 : Int) < (n : Int) := by omega
  have f3 : ¬ (ti : Int) < 2 := by omega
  have f4 : ¬ (20 : Int) < (ti : Int) := by omega
  have f5 : ¬ lv < 1 := by omega
  have f6 : ¬ 9 < lv := by omega
  clear hl hb hnil
  go_enter Try.func4, Try.ntmps4
  go_wp2_with fail
  refine HA.out.mono ?_
  rintro e w1 ⟨rfl, h1⟩
  have BA := Lib.hid h1
  have HO1 : Hid (OwnB (w1.alloc (.cells #[] 5)) w.heap.size 5 (.slice (some ⟨w1.heap.size, 0, none⟩) 0 0) []) := (OwnB.empty w1 5).mono h1.size
  have BA1 : Hid (Below w.heap.size w (w1.alloc (.cells #[] 5))) := BA.out.alloc BA.out.size _
  clear h1 HA BA
  go_wp2_with fail
  go_loopw [7, 8] (fun v i wr => ∃ (k : Nat), k ≤ ti ∧ i = .int .i64 k ∧ OwnB wr w.heap.size 5 v (reps bs k) ∧ Below w.heap.size w wr) (fun _ i _ => ti - (intOf i).toNat)
  case atStart => exact ⟨0, by omega, rfl, HO1.out, BA1.out⟩
  case round =>
    obtain ⟨k, hk, rfl, hO, hbw⟩ := hrel
    clear HO1 BA1
    have hlen : Hid ((reps bs k).length = k * n) := by unfold Hid; rw [reps_len, HL.out]
    have hkn : k * n ≤ 4000 := Nat.le_trans (Nat.mul_le_mul (show k ≤ 20 by omega) n2) (by omega)
    obtain ⟨ao, oc, hv, hoc, _⟩ := OwnB.form3 hO
    rw [hlen.out] at hv hoc
    subst hv
    have HO := Lib.hid hO
    clear hO
    by_cases hlt : k < ti
    · have i1 : (k : Int) < (ti : Int) := by omega
      have HBX := Lib.hid (HB.out.below hbw)
      have HLE : Hid ((reps bs k).length + bs.length ≤ 140737488355328) := by unfold Hid; rw [hlen.out, HL.out]; omega
      go_wp2_with (at_builtin; go_loud (refine wpList_append_bytes rfl (.tmp 44) (.tmp 45) 22 5 rfl Try.underlying22 info5 w.heap.size _ (reps bs k) bs a n cap rfl HO.out rfl HL.out HBX.out (fun h => (HN.out h).2) HLE.out hbw.size ?_))
      rintro v3 w3 hO3 hg3 hb3
      have HO3 : Hid (OwnB w3 w.heap.size 5 v3 (reps bs (k + 1))) := hO3
      have HB3 : Hid (Below w.heap.size w w3) := hbw.trans hb3
      clear hO3 hg3 hb3
      go_wp2_with fail
      go_roundw
      case rel => exact ⟨k + 1, by omega, by simp, HO3.out, HB3.out⟩
      case measure => simp [intOf]; omega
    · have hkt : k = ti := by omega
      subst hkt
      have HW := Lib.hid (HO.out.bytes' hlen.out)
      have HBW := Lib.hid hbw
      generalize hm : k * n = m at hlen hkn hoc HW HO
      have HM := Lib.hid hm
      clear hbw hlt hm HO
      go_wp2_with fail
      refine (find_any ao m oc (reps bs k) lv hlen.out (by omega) hoc (by omega) wr HW.out).mono ?_
      rintro e w3 ⟨v, ts, rfl, hO, hF, h3⟩
      obtain ⟨at1, tc, hv, _, _⟩ := hO.form
      subst hv
      have BC := Lib.hid (HBW.out.trans (h3.mono HBW.out.size)); have W3 := Lib.hid (HW.out.below h3); have T3 := Lib.hid hO.toks; have HF := Lib.hid hF
      have htl : ts.length < m := by have := reps_short hF l1 (by rw [HL.out]; exact n1) t1; rw [HL.out, HM.out] at this; exact this
      clear hO h3 hF HBW HW
      go_wp2_with fail
      refine (exp_any at1 ts.length tc m ts rfl (by omega) (by omega) (tells_le HF.out.tells) w3 T3.out).mono ?_
      rintro e w5 ⟨⟨a1, c1, he, hc1, hn2, hx1⟩, h5⟩
      rw [found_exp HF.out (by rw [hlen.out]; omega), hlen.out] at he
      rw [found_exp HF.out (by rw [hlen.out]; omega)] at hx1
      subst he
      have BE := Lib.hid (BC.out.trans (h5.mono BC.out.size)); have W5 := Lib.hid (W3.out.below h5); have X5 := Lib.hid hx1
      clear h5 BC W3 T3 hx1 hc1
      go_wp2_with fail
      refine (same_any a1 ao m m c1 oc (reps bs k) (reps bs k) w5 hlen.out hlen.out (by omega) (by omega) X5.out W5.out).mono ?_
      rw [decide_eq_true rfl]
      rintro e w6 ⟨rfl, h6⟩
      have BF := Lib.hid (BE.out.trans (h6.mono BE.out.size))
      clear h6 BE W5 X5
      go_wp2_with fail
      go_ret
      exact ⟨rfl, BF.out⟩

theorem lawL (bs : List UInt8) (a : Option Addr) (n cap : Nat) (ti lv : Int) (w : World) (hl : bs.length = n) (hn : n ≤ 9223372036854775807) (hnil : a = none → n = 0 ∧ cap = 0) (hb : Bytes w a bs) :
    Calls Try.prog 4 #[.slice a n cap, .int .i64 ti, .int .i64 lv] w fun e w' => e = .returned (.bool true) ∧ Below w.heap.size w w' := by
  by_cases h : n < 4 ∨ 200 < n ∨ ti < 2 ∨ 20 < ti ∨ lv < 1 ∨ 9 < lv
  · exact levels_out a n cap ti lv w hn h
  · obtain ⟨t, rfl⟩ : ∃ t : Nat, ti = t := ⟨ti.toNat, by omega⟩
    exact levels_walk a n cap t lv bs w hl (by omega) (by omega) (by omega) hnil hb
end Go.Proofs.Ytegfacepnklbjaa
