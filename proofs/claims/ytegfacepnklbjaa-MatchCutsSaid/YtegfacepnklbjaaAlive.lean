/- A row of one byte: the call answers true. -/
import Derived.Test.YtegfacepnklbjaaFind
import Derived.Test.YtegfacepnklbjaaRefE
import Derived.Lib.SlBytesConst
namespace Go.Proofs.Ytegfacepnklbjaa
open Go.RowKit Go.Maps
set_option linter.unusedVariables false

theorem found_exp {bs : List UInt8} {lv : Int} {ts : List Tk} (h : Found bs lv ts) {lim : Nat} (hl : bs.length ≤ lim) : expT lim [] ts = (bs, 0) := by
  have := exp_tells (lim := lim) h.tells (Nat.zero_le _) (by rw [h.ends]; exact hl)
  rw [h.ends, List.take_length, List.take_zero] at this
  exact this
theorem found_len {bs : List UInt8} {lv : Int} {ts : List Tk} (h : Found bs lv ts) : ts.length ≤ bs.length := by
  have := ends_le 0 ts; rw [h.ends] at this; omega
theorem good_le {b : List UInt8} {p : Nat} {t : Tk} (h : good b p t) : t.len ≤ 1099511627776 ∧ t.dist ≤ 1099511627776 := by
  rcases h with ⟨h1, h2, _⟩ | ⟨h1, h2, h3, h4, _⟩ <;> omega
theorem tells_le {b : List UInt8} {p : Nat} {ts : List Tk} (h : Tells b p ts) : ∀ t ∈ ts, t.len ≤ 1099511627776 ∧ t.dist ≤ 1099511627776 := by
  induction ts generalizing p with
  | nil => intro t ht; simp at ht
  | cons s ts ih =>
    intro t ht
    rcases List.mem_cons.1 ht with rfl | ht
    · exact good_le h.1
    · exact ih h.2 t ht
def aaa : List UInt8 := List.replicate 10 97
theorem aaa_get {i : Nat} (h : i < 10) : aaa[i]? = some 97 := by unfold aaa; rw [List.getElem?_replicate, if_pos h]
theorem aaa_short {ts : List Tk} (h : Found aaa 6 ts) : ts.length < 10 := by
  have ha : Again aaa 1 := ⟨by decide, 0, by omega, fun i hi => by rw [aaa_get (by omega), aaa_get (by omega)]⟩
  rcases h.some (by omega) with ⟨t, h1, h2⟩ | h1
  · have := ends_lt (p := 0) (ts := ts) ⟨t, h1, by omega⟩
    rw [h.ends] at this
    have e : aaa.length = 10 := by decide
    omega
  · exact absurd ha (h1 1)
theorem aaa_none {ts : List Tk} (h : Found aaa 0 ts) : ts.length = 10 := by
  have := ends_eq (p := 0) (h.none (by omega))
  rw [h.ends] at this
  have e : aaa.length = 10 := by decide
  omega
theorem aaa_back {k : Nat} (h : Back aaa (1 + 2) 2 5 k) : k = 5 := by
  have e : aaa.length = 10 := by decide
  rcases Nat.lt_or_ge k 5 with hk | hk
  · rcases h.stop with h1 | h1 | h1
    · exact h1
    · omega
    · exact absurd (by rw [aaa_get (by omega), aaa_get (by omega)]) h1
  · have := h.le; omega
theorem aaa_lie (w : World) (m : Nat × Nat) : Lie (w.alloc (.cells #[.int .u8 97, .int .u8 97, .int .u8 97, .int .u8 97, .int .u8 97, .int .u8 97, .int .u8 97, .int .u8 97, .int .u8 97, .int .u8 97] 5 m)) w.heap.size 0 aaa := bytes_lit w aaa 5 m

set_option maxRecDepth 100000 in
set_option maxHeartbeats 2000000 in
theorem alive_any (w : World) : Calls Try.prog 6 #[] w fun e w' => e = .returned (.bool true) ∧ Below w.heap.size w w' := by
  have HL1 := Lib.hid (aaa_lie w (10, 11))
  have HB1 : Hid (Below w.heap.size w (w.alloc (.cells #[.int .u8 97, .int .u8 97, .int .u8 97, .int .u8 97, .int .u8 97, .int .u8 97, .int .u8 97, .int .u8 97, .int .u8 97, .int .u8 97] 5 (10, 11)))) := (Below.refl _ _).alloc (Nat.le_refl _) _
  have hlen : Hid (aaa.length = 10) := by unfold Hid; decide
  have kc := fun (w : World) (C : Array Value) (n c : Nat) => Lib.run_convert_bytes_const (P := Try.prog) w 22 5 C n c Try.underlying22 Try.underlying5
  go_enter Try.func6, Try.ntmps6
  go_wp2_with fail
  refine (find_any (some ⟨w.heap.size, 0, none⟩) 10 10 aaa 6 hlen.out (by omega) (by omega) (by omega) _ (.inr ⟨_, _, rfl, HL1.out⟩)).mono ?_
  rintro e w2 ⟨v, ts, rfl, hO, hF, h2⟩
  have HB2 := Lib.hid (HB1.out.trans (h2.mono HB1.out.size)); have HL2 := Lib.hid (HL1.out.below h2)
  obtain ⟨ao, oc, hv, _, hon⟩ := hO.form
  subst hv
  have HT2 := Lib.hid hO.toks; have HFD := Lib.hid hF
  have hn1 : ts.length < 10 := aaa_short hF
  clear hO hF h2 HB1 HL1 kc
  go_wp2_with fail
  refine (exp_any ao ts.length oc 10 ts rfl (by omega) (by omega) (tells_le HFD.out.tells) w2 HT2.out).mono ?_
  rintro e w3 ⟨⟨a1, c1, he, hc1, hn2, hx1⟩, h3⟩
  rw [found_exp HFD.out (by rw [hlen.out]; omega), hlen.out] at he
  rw [found_exp HFD.out (by rw [hlen.out]; omega)] at hx1
  subst he
  have HB3 := Lib.hid (HB2.out.trans (h3.mono HB2.out.size)); have HL3 := Lib.hid (HL2.out.below h3); have HT3 := Lib.hid (HT2.out.below h3); have HX3 := Lib.hid hx1
  clear h3 HB2 HL2 HT2 hx1 hc1
  go_wp2_with fail
  refine (exp_any ao ts.length oc 9 ts rfl (by omega) (by omega) (tells_le HFD.out.tells) w3 HT3.out).mono ?_
  rintro e w4 ⟨⟨a2, c2, he, hc2, hn3, hx2⟩, h4⟩
  have hlim : expT 9 [] ts = ([], 14) := by
    have := exp_limit (lim := 9) HFD.out.tells (Nat.zero_le _) (by omega) (by rw [HFD.out.ends, hlen.out]; omega)
    rw [List.take_zero] at this
    exact this
  rw [hlim] at he
  subst he
  have HB4 := Lib.hid (HB3.out.trans (h4.mono HB3.out.size)); have HL4 := Lib.hid (HL3.out.below h4); have HX4 := Lib.hid (HX3.out.below h4)
  clear h4 HB3 HL3 HT3 HX3 hx2 hc2 hlim
  go_wp2_with fail
  refine (exp_any (some ⟨w4.heap.size, 0, none⟩) 1 1 9 [⟨0, 3, 1⟩] rfl (by omega) (by omega) (by intro t ht; simp at ht; rw [ht]; simp) _ (mk_one w4 ⟨0, 3, 1⟩ 34 _)).mono ?_
  rintro e w5 ⟨⟨a3, c3, he, hc3, hn4, hx3⟩, h5⟩
  have hform : expT 9 [] [⟨0, 3, 1⟩] = ([], 10) := by decide
  rw [hform] at he
  subst he
  have hb5 := (HB4.out.alloc HB4.out.size (.cells #[.int .u8 (byt 0), .int .i64 ((3 : Nat) : Int), .int .i64 ((1 : Nat) : Int)] 34)).trans (h5.mono (HB4.out.alloc HB4.out.size _).size)
  have hl5 := (HL4.out.below ((Below.refl w4.heap.size w4).alloc (Nat.le_refl _) (.cells #[.int .u8 (byt 0), .int .i64 ((3 : Nat) : Int), .int .i64 ((1 : Nat) : Int)] 34))).below h5
  have hx5 := (HX4.out.below ((Below.refl w4.heap.size w4).alloc (Nat.le_refl _) (.cells #[.int .u8 (byt 0), .int .i64 ((3 : Nat) : Int), .int .i64 ((1 : Nat) : Int)] 34))).below h5
  have HB5 := Lib.hid hb5; have HL5 := Lib.hid hl5; have HX5 := Lib.hid hx5
  clear hb5 hl5 hx5 h5 hx3 hc3 hform HB4 HL4 HX4
  go_wp2_with fail
  refine (same_any a1 (some ⟨w.heap.size, 0, none⟩) 10 10 c1 10 aaa aaa w5 hlen.out hlen.out (by omega) (by omega) HX5.out (.inr ⟨_, _, rfl, HL5.out⟩)).mono ?_
  rw [decide_eq_true rfl]
  rintro e w6 ⟨rfl, h6⟩
  have HB6 := Lib.hid (HB5.out.trans (h6.mono HB5.out.size)); have HL6 := Lib.hid (HL5.out.below h6)
  clear h6 HB5 HL5 HX5
  go_wp2_with fail
  refine (find_any (some ⟨w.heap.size, 0, none⟩) 10 10 aaa 0 hlen.out (by omega) (by omega) (by omega) w6 (.inr ⟨_, _, rfl, HL6.out⟩)).mono ?_
  rintro e w7 ⟨v, ts0, rfl, hO, hF, h7⟩
  have HB7 := Lib.hid (HB6.out.trans (h7.mono HB6.out.size)); have HL7 := Lib.hid (HL6.out.below h7)
  obtain ⟨ao0, oc0, hv, _, _⟩ := hO.form
  rw [aaa_none hF] at hv
  subst hv
  clear hO hF h7 HB6 HL6
  go_wp2_with fail
  refine (back_at w.heap.size 0 10 10 1 2 5 aaa hlen.out (by omega) (by omega) (by omega) (by omega) (by omega) w7 HL7.out).mono ?_
  rintro e w8 ⟨⟨k, rfl, hk⟩, h8⟩
  have hk5 := aaa_back hk
  subst hk5
  have HB8 := Lib.hid (HB7.out.trans (h8.mono HB7.out.size))
  clear h8 HB7 HL7 hk
  go_wp2_with fail
  go_ret
  exact ⟨rfl, HB8.out⟩
end Go.Proofs.Ytegfacepnklbjaa
