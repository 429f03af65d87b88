/- The walk of MatchFinds: it returns true for all bytes at every level. -/
import Derived.Test.YtegfacepnklbjaaAlive
import Derived.Test.YtegfacepnklbjaaOf
import Derived.Test.YtegfacepnklbjaaFirst
namespace Go.Proofs.Ytegfacepnklbjaa
open Go.RowKit Go.Maps
set_option linter.unusedVariables false

def anyC (ts : List Tk) : Bool := ts.any fun t => decide (0 < t.len)
theorem anyC_snoc {ts : List Tk} {k : Nat} {t : Tk} (h : ts[k]? = some t) : anyC (ts.take (k + 1)) = (anyC (ts.take k) || decide (0 < t.len)) := by
  unfold anyC; rw [List.take_add_one, h]; simp
theorem anyC_none {bs : List UInt8} {lv : Int} {ts : List Tk} (h : Found bs lv ts) (hl : lv ≤ 0) : anyC ts = false := by
  unfold anyC; rw [List.any_eq_false]; intro t ht; rw [h.none hl t ht]; simp
theorem anyC_some {bs : List UInt8} {lv : Int} {ts : List Tk} (h : Found bs lv ts) (hl : 1 ≤ lv) (ha : anyC ts = false) : ∀ p, ¬ Again bs p := by
  rcases h.some hl with ⟨t, h1, h2⟩ | h1
  · unfold anyC at ha
    rw [List.any_eq_false] at ha
    exact absurd (decide_eq_true (show 0 < t.len by omega)) (ha t h1)
  · exact h1
theorem first_nil (a : Option Addr) (cap : Nat) (w : World) : Calls Try.prog 12 #[.slice a 0 cap] w fun e w' => e = .returned (.int .i64 (-1)) ∧ Below w.heap.size w w' := by
  go_enter Try.func12, Try.ntmps12
  go_wp2_with fail
  refine wp_loop_rounds 1 ?_
  rw [rounds_succ]
  go_wp2
  go_ret
  exact ⟨rfl, Below.refl _ _⟩
theorem first_any (a : Option Addr) (n cap : Nat) (bs : List UInt8) (hl : bs.length = n) (hn : n ≤ 1099511627776) (w : World) (hb : Bytes w a bs) (hno : ∀ p, ¬ Again bs p) :
    Calls Try.prog 12 #[.slice a n cap] w fun e w' => e = .returned (.int .i64 (-1)) ∧ Below w.heap.size w w' := by
  rcases hb with rfl | ⟨b, o, rfl, hb⟩
  · subst hl; exact first_nil a cap w
  · exact first_none b o n cap bs hl hn w hb hno

theorem finds_long (a : Option Addr) (n cap : Nat) (lv : Int) (w : World) (hn : 1500 < n) (hn2 : n ≤ 9223372036854775807) :
    Calls Try.prog 3 #[.slice a n cap, .int .i64 lv] w fun e w' => e = .returned (.bool true) ∧ Below w.heap.size w w' := by
  have HA := Lib.hid (alive_any w)
  go_enter Try.func3, Try.ntmps3
  go_wp2_with (go_at_call 6; refine HA.out.mono ?_; rintro e w1 ⟨rfl, hb1⟩)
  go_ret
  exact ⟨rfl, hb1⟩

set_option maxRecDepth 100000 in
set_option maxHeartbeats 2000000 in
theorem finds_walk (a : Option Addr) (n cap : Nat) (lv : Int) (bs : List UInt8) (w : World) (hl : bs.length = n) (hn : n ≤ 1500) (hcap : n ≤ cap) (hnil : a = none → n = 0 ∧ cap = 0) (hb : Bytes w a bs) (hlv : -9223372036854775808 ≤ lv ∧ lv ≤ 9223372036854775807) :
    Calls Try.prog 3 #[.slice a n cap, .int .i64 lv] w fun e w' => e = .returned (.bool true) ∧ Below w.heap.size w w' := by
  have HA := Lib.hid (alive_any w)
  have HL := Lib.hid hl; have HB := Lib.hid hb; have HN := Lib.hid hnil
  clear hl hb hnil
  go_enter Try.func3, Try.ntmps3
  go_wp2_with fail
  refine HA.out.mono ?_
  rintro e w1 ⟨rfl, h1⟩
  have BA := Lib.hid h1; have B1 := Lib.hid (HB.out.below h1)
  clear h1 HA HB
  go_wp2_with fail
  refine (copy_any a n cap bs w1 HL.out (by omega) HN.out B1.out).mono ?_
  rintro e w2 ⟨v, rfl, hO, h2⟩
  obtain ⟨ao, oc, hv⟩ := hO.form'
  rw [HL.out] at hv
  subst hv
  have hoc : n ≤ oc := by
    rcases hO.2 with ⟨hv, h0⟩ | ⟨g, cap', cur, hv, hg, hh, hle, _⟩
    · rw [HL.out] at h0; omega
    · simp only [Value.slice.injEq] at hv
      obtain ⟨_, _, rfl⟩ := hv
      rw [HL.out] at hle; exact hle
  have BB := Lib.hid (BA.out.trans (h2.mono BA.out.size)); have B2 := Lib.hid (B1.out.below h2); have W2 := Lib.hid (hO.bytes' HL.out)
  clear hO h2 BA B1
  go_wp2_with fail
  refine (find_any ao n oc bs lv HL.out (by omega) hoc hlv w2 W2.out).mono ?_
  rintro e w3 ⟨v, ts, rfl, hO, hF, h3⟩
  obtain ⟨at1, tc, hv, _, _⟩ := hO.form
  subst hv
  have BC := Lib.hid (BB.out.trans (h3.mono BB.out.size)); have B3 := Lib.hid (B2.out.below h3); have W3 := Lib.hid (W2.out.below h3); have T3 := Lib.hid hO.toks; have HF := Lib.hid hF
  have htl : ts.length ≤ n := by have := found_len hF; rw [HL.out] at this; exact this
  clear hO h3 hF BB B2 W2
  go_wp2_with fail
  refine (of_any at1 ts.length tc ts rfl (by omega) w3 T3.out).mono ?_
  rintro e w4 ⟨v, rfl, hO, h4⟩
  obtain ⟨at2, tc2, hv, _, _⟩ := hO.form
  subst hv
  have BD := Lib.hid (BC.out.trans (h4.mono BC.out.size)); have B4 := Lib.hid (B3.out.below h4); have W4 := Lib.hid (W3.out.below h4); have T4 := Lib.hid (T3.out.below h4); have S4 := Lib.hid hO.toks
  clear hO h4 BC B3 W3 T3
  go_wp2_with fail
  refine (refExp_any at2 ts.length tc2 n ts rfl (by omega) (by omega) (tells_le HF.out.tells) w4 S4.out).mono ?_
  rintro e w5 ⟨⟨a1, c1, he, hc1, hn2, hx1⟩, h5⟩
  rw [found_exp HF.out (by rw [HL.out]; omega), HL.out] at he
  rw [found_exp HF.out (by rw [HL.out]; omega)] at hx1
  subst he
  have BE := Lib.hid (BD.out.trans (h5.mono BD.out.size)); have B5 := Lib.hid (B4.out.below h5); have W5 := Lib.hid (W4.out.below h5); have T5 := Lib.hid (T4.out.below h5); have X5 := Lib.hid hx1
  clear h5 BD B4 W4 T4 S4 hx1 hc1
  go_wp2_with fail
  refine (same_any a1 a n n c1 cap bs bs w5 HL.out HL.out (by omega) (by omega) X5.out B5.out).mono ?_
  rw [decide_eq_true rfl]
  rintro e w6 ⟨rfl, h6⟩
  have BF := Lib.hid (BE.out.trans (h6.mono BE.out.size)); have B6 := Lib.hid (B5.out.below h6); have W6 := Lib.hid (W5.out.below h6); have T6 := Lib.hid (T5.out.below h6)
  clear h6 BE B5 W5 T5 X5
  go_wp2_with fail
  refine (same_any ao a n n oc cap bs bs w6 HL.out HL.out (by omega) (by omega) W6.out B6.out).mono ?_
  rw [decide_eq_true rfl]
  rintro e w7 ⟨rfl, h7⟩
  have BG := Lib.hid (BF.out.trans (h7.mono BF.out.size)); have B7 := Lib.hid (B6.out.below h7); have T7 := Lib.hid (T6.out.below h7)
  clear h7 BF B6 W6 T6
  go_wp2_with fail
  go_loopw [9, 10] (fun c i wr => ∃ (k : Nat) (v : Bool), k ≤ ts.length ∧ c = .bool v ∧ i = .int .i64 k ∧ Hid (v = anyC (ts.take k)) ∧ wr = w7) (fun _ i _ => ts.length - (intOf i).toNat)
  case atStart => exact ⟨0, false, by omega, rfl, rfl, Lib.hid rfl, rfl⟩
  case round =>
    obtain ⟨k, v, hk, rfl, rfl, hv, rfl⟩ := hrel
    by_cases hlt : k < ts.length
    · obtain ⟨t, ht⟩ : ∃ t, ts[k]? = some t := ⟨ts[k], List.getElem?_eq_getElem hlt⟩
      obtain ⟨b, o, rfl, hc⟩ : ∃ b o, at1 = some ⟨b, o, none⟩ ∧ ∀ j u, (flatT ts)[j]? = some u → wr.cell? ⟨b, o + j, none⟩ = some u := by
        rcases T7.out with h | ⟨b, o, ha, hc⟩
        · rw [h] at ht; simp at ht
        · exact ⟨b, o, ha, hc⟩
      obtain ⟨_, c1, _⟩ := Toks.at hc ht
      have HV : Hid (anyC (ts.take (k + 1)) = (v || decide (0 < t.len))) := by unfold Hid; rw [hv.out]; exact anyC_snoc ht
      clear hc ht hv
      cases v with
      | true =>
        go_wp2_with fail
        go_roundw
        case rel => exact ⟨k + 1, true, by omega, rfl, by simp, Lib.hid (by rw [HV.out]; rfl), trivial⟩
        case measure => simp [intOf]; omega
      | false =>
        by_cases hz : 0 < t.len
        · have i1 : (0 : Int) < (t.len : Int) := by omega
          have HV2 : Hid (anyC (ts.take (k + 1)) = true) := by unfold Hid; rw [HV.out, decide_eq_true hz]; rfl
          go_wp2_with fail
          go_roundw
          case rel => exact ⟨k + 1, true, by omega, rfl, by simp, Lib.hid HV2.out.symm, trivial⟩
          case measure => simp [intOf]; omega
        · have i1 : ¬ (0 : Int) < (t.len : Int) := by omega
          have HV2 : Hid (anyC (ts.take (k + 1)) = false) := by unfold Hid; rw [HV.out, decide_eq_false hz]; rfl
          go_wp2_with fail
          go_roundw
          case rel => exact ⟨k + 1, false, by omega, by simp, by simp, Lib.hid HV2.out.symm, trivial⟩
          case measure => simp [intOf]; omega
    · have HV : Hid (v = anyC ts) := by
        unfold Hid; rw [hv.out, List.take_of_length_le (by omega)]
      clear hv
      by_cases hl0 : lv ≤ 0
      · have hvf : v = false := by rw [HV.out]; exact anyC_none HF.out hl0
        subst hvf
        go_wp2_with fail
        go_ret
        exact ⟨rfl, BG.out⟩
      · cases v with
        | true =>
          go_wp2_with fail
          go_ret
          exact ⟨rfl, BG.out⟩
        | false =>
          have HNO := Lib.hid (anyC_some HF.out (by omega) HV.out.symm)
          go_wp2_with fail
          refine (first_any a n cap bs HL.out (by omega) wr B7.out HNO.out).mono ?_
          rintro e w8 ⟨rfl, h8⟩
          have BH := Lib.hid (BG.out.trans (h8.mono BG.out.size))
          clear h8
          go_wp2_with fail
          go_ret
          exact ⟨rfl, BH.out⟩
theorem lawF (bs : List UInt8) (a : Option Addr) (n cap : Nat) (lv : Int) (w : World) (hl : bs.length = n) (hn : n ≤ 9223372036854775807) (hcap : n ≤ cap) (hnil : a = none → n = 0 ∧ cap = 0) (hb : Bytes w a bs) (hlv : -9223372036854775808 ≤ lv ∧ lv ≤ 9223372036854775807) :
    Calls Try.prog 3 #[.slice a n cap, .int .i64 lv] w fun e w' => e = .returned (.bool true) ∧ Below w.heap.size w w' := by
  by_cases h : 1500 < n
  · exact finds_long a n cap lv w h hn
  · exact finds_walk a n cap lv bs w hl (by omega) hcap hnil hb hlv
end Go.Proofs.Ytegfacepnklbjaa
