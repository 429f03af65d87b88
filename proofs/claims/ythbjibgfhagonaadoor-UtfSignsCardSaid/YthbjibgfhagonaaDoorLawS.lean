/- The walk of UtfSigns: it returns true for all bytes, places and signs. -/
import Derived.Test.YthbjibgfhagonaaDoorRefD
import Derived.Test.YthbjibgfhagonaaDoorLawC
namespace Go.Proofs.YthbjibgfhagonaaDoor
open Go.RowKit
set_option linter.unusedVariables false

theorem nextP_range (bs : List UInt8) (k : Int) : 0 ≤ (nextP bs k).1 ∧ (nextP bs k).1 ≤ 1114111 := by
  by_cases h : k < 0
  · have : nextP bs k = (0, 0) := by unfold nextP; rw [if_pos (.inl h)]
    rw [this]; simp
  · obtain ⟨m, rfl⟩ := Int.eq_ofNat_of_zero_le (by omega : 0 ≤ k)
    by_cases hx : ∃ r rest, Lib.validRune r = true ∧ bs.drop m = encB r ++ rest
    · obtain ⟨r, rest, hv, hl⟩ := hx
      rw [next_full hv hl]
      have := (valid_iff r).1 hv
      constructor <;> simp only <;> omega
    · rw [next_none hx]; simp

theorem signs_long (a : Option Addr) (n cap : Nat) (k r : Int) (w : World) (hn : 2000 < n) (hn2 : n ≤ 9223372036854775807) (hT : Tabs w) (hT2 : Tab2 w) :
    Calls Tryd.prog 4 #[.slice a n cap, .int .i64 k, .int .i32 r] w fun e w' => e = .returned (.bool true) ∧ Below w.heap.size w w' := by
  have HA := Lib.hid (alive_any w hT hT2)
  clear hT hT2
  go_enter Tryd.func4, Tryd.ntmps4
  go_wp2_with (go_at_call 8; refine HA.out.mono ?_; rintro e w1 ⟨rfl, hb1⟩)
  go_ret
  exact ⟨rfl, hb1⟩

set_option maxHeartbeats 2000000 in
set_option maxRecDepth 100000 in
theorem signs_walk (a : Option Addr) (n cap : Nat) (k r : Int) (bs : List UInt8) (w : World) (hl : bs.length = n) (hn : n ≤ 2000) (hcap : n ≤ cap) (hnil : a = none → n = 0 ∧ cap = 0)
    (hr : -2147483648 ≤ r ∧ r ≤ 2147483647) (hb : Bytes w a bs) (hT : Tabs w) (hT2 : Tab2 w) :
    Calls Tryd.prog 4 #[.slice a n cap, .int .i64 k, .int .i32 r] w fun e w' => e = .returned (.bool true) ∧ Below w.heap.size w w' := by
  have HA := Lib.hid (alive_any w hT hT2)
  have HL := Lib.hid hl; have HB := Lib.hid hb; have HT := Lib.hid hT; have HNIL := Lib.hid hnil
  obtain ⟨hr0, hr1⟩ := hr
  clear hl hb hT hT2 hnil
  go_enter Tryd.func4, Tryd.ntmps4
  go_wp2_with (go_at_call 8; refine HA.out.mono ?_; rintro e w1 ⟨rfl, hb1⟩)
  refine (copy_any a n cap bs w1 HL.out (by omega) HNIL.out (HB.out.below hb1)).mono ?_
  rintro e w2 ⟨v, rfl, hv, hb2⟩
  have B2 := Lib.hid (hb1.trans (hb2.mono hb1.size))
  obtain ⟨oa, on, oc, rfl, ol, ocap, onil, oby⟩ := hv.isB
  obtain rfl : n = on := by rw [← HL.out, ol]
  have ONIL := Lib.hid onil; have O2 := Lib.hid oby
  clear hv ol onil oby hb1 hb2 HA
  go_wp2_with fail
  have hR := nextP_range bs k
  have h1 := next_any oa n oc k bs w2 HL.out (by omega) ocap O2.out (HT.out.below HT.out.size B2.out)
  have h2 := fun w' (h : Below w.heap.size w w') => refNext_any a n cap k bs w' HL.out (by omega) (HB.out.below h)
  generalize nextP bs k = d at hR h1 h2
  obtain ⟨R, N⟩ := d
  simp only at hR h1 h2
  obtain ⟨R0, R1⟩ := hR
  have H2 := Lib.hid h2
  refine h1.mono ?_
  rintro e w3 ⟨rfl, hb3⟩
  have B3 := Lib.hid (B2.out.trans (hb3.mono B2.out.size)); have O3 := Lib.hid (O2.out.below hb3)
  clear h1 h2 hb3 O2 B2
  go_wp2_with fail
  refine (H2.out w3 B3.out).mono ?_
  rintro e w4 ⟨rfl, hb4⟩
  have B4 := Lib.hid (B3.out.trans (hb4.mono B3.out.size)); have O4 := Lib.hid (O3.out.below hb4)
  clear hb4 O3 B3 H2
  go_wp2_with fail
  have h3 := check_any oa n oc bs w4 HL.out (by omega) ocap O4.out (HT.out.below HT.out.size B4.out)
  have h4 := fun w' (h : Below w.heap.size w w') => refCheck_any a n cap bs w' HL.out (by omega) (HB.out.below h)
  generalize checkP bs = d at h3 h4
  obtain ⟨C, K⟩ := d
  simp only at h3 h4
  have H4 := Lib.hid h4
  refine h3.mono ?_
  rintro e w5 ⟨rfl, hb5⟩
  have B5 := Lib.hid (B4.out.trans (hb5.mono B4.out.size)); have O5 := Lib.hid (O4.out.below hb5)
  clear h3 h4 hb5 O4 B4
  go_wp2_with fail
  refine (H4.out w5 B5.out).mono ?_
  rintro e w6 ⟨rfl, hb6⟩
  have B6 := Lib.hid (B5.out.trans (hb6.mono B5.out.size)); have O6 := Lib.hid (O5.out.below hb6)
  clear hb6 O5 B5 H4
  go_wp2_with fail
  refine (same_any oa a n n oc cap bs bs w6 HL.out HL.out (by omega) (by omega) O6.out (HB.out.below B6.out)).mono ?_
  rw [decide_eq_true rfl]
  rintro e w7 ⟨rfl, hb7⟩
  have B7 := Lib.hid (B6.out.trans (hb7.mono B6.out.size)); have O7 := Lib.hid (O6.out.below hb7)
  clear hb7 O6 B6
  go_wp2_with fail
  have hP := put_any oa n oc bs r w7 HL.out (by omega) ONIL.out hr0 hr1 O7.out
  obtain ⟨V, hV⟩ : ∃ V, V = Lib.validRune r := ⟨_, rfl⟩
  rw [← hV] at hP
  have HV := Lib.hid hV
  clear hV
  refine hP.mono ?_
  rintro e w8 ⟨v, rfl, hv, hb8⟩
  have B8 := Lib.hid (B7.out.trans (hb8.mono B7.out.size))
  obtain ⟨pa, pn, pc, rfl, pl, pcap, pnil, pby⟩ := hv.isB
  have PL := Lib.hid pl; have P8 := Lib.hid pby
  have HPB : Hid (∀ b o, pa = some ⟨b, o, none⟩ → putB bs r ≠ [] → b < w8.heap.size) := fun b o h h0 => by
    rcases pby with h1 | ⟨b', o', h1, h2⟩
    · exact absurd h1 h0
    · rw [h] at h1
      cases h1
      obtain ⟨c, hc⟩ := at_some (us := putB bs r) (k := 0) (List.length_pos_iff.2 h0)
      exact block_lt_of_cell (h2 0 c hc)
  have hpn : pn ≤ n + 4 := by
    rw [← pl]; unfold putB; have := encB_len r
    split
    · rw [List.length_append, HL.out]; omega
    · rw [HL.out]; omega
  clear hP hv pl pnil pby hb8 B7 O7
  go_wp2_with fail
  refine (copy_any a n cap bs w8 HL.out (by omega) HNIL.out (HB.out.below B8.out)).mono ?_
  rintro e w9 ⟨v, rfl, hv, hb9⟩
  have B9 := Lib.hid (B8.out.trans (hb9.mono B8.out.size)); have P9 := Lib.hid (P8.out.below hb9)
  have hs8 := B8.out.size
  obtain ⟨qa, qn, qc, rfl, ql, qcap, qnil, qby⟩ := hv.isB
  obtain rfl : n = qn := by rw [← HL.out, ql]
  have Q9 := Lib.hid (hv.mono hs8); have HQB := Lib.hid (own_block hv)
  clear hv ql qnil qby hb9 P8 B8 hs8
  have HS : Hid (∀ w, Calls Tryd.prog 17 #[.int .i64 r] w fun e w' => e = .returned (.bool V) ∧ w = w') := fun w => by rw [HV.out]; exact (sign_any r w).mono fun e w' h => ⟨h.1, h.2.symm⟩
  cases V with
  | false =>
    have hput : putB bs r = bs := by unfold putB; rw [← HV.out]; rfl
    rw [hput] at PL P9
    have HC := Lib.hid (fun w => char_any r w); have HC2 := Lib.hid (fun w => refChar_any r w)
    have HK := Lib.hid (fun w => blank_any r w); have HK2 := Lib.hid (fun w => refBlank_any r w)
    have HG := Lib.hid (fun w => begins_any r w); have HG2 := Lib.hid (fun w => refBegins_any r w)
    have HO := Lib.hid (fun w => goes_any r w); have HO2 := Lib.hid (fun w => refGoes_any r w)
    clear hput
    go_wp2_with (first
      | (go_at_call 17; refine (HS.out _).mono ?_; rintro e x1 ⟨rfl, rfl⟩)
      | (go_at_call 16; refine (same_any pa qa pn n pc qc bs bs _ PL.out HL.out (by omega) (by omega) P9.out (OwnB.bytes' Q9.out HL.out)).mono ?_; rw [decide_eq_true rfl]; rintro e x2 ⟨rfl, hc1⟩)
      | (go_at_call 9; refine (HC.out _).mono ?_; rintro e x3 ⟨rfl, hc2⟩)
      | (go_at_call 19; refine (HC2.out _).mono ?_; rintro e x4 ⟨rfl, rfl⟩)
      | (go_at_call 20; refine (HK.out _).mono ?_; rintro e x5 ⟨rfl, rfl⟩)
      | (go_at_call 21; refine (HK2.out _).mono ?_; rintro e x6 ⟨rfl, rfl⟩)
      | (go_at_call 22; refine (HG.out _).mono ?_; rintro e x7 ⟨rfl, hc3⟩)
      | (go_at_call 23; refine (HG2.out _).mono ?_; rintro e x8 ⟨rfl, hc4⟩)
      | (go_at_call 24; refine (HO.out _).mono ?_; rintro e x9 ⟨rfl, hc5⟩)
      | (go_at_call 25; refine (HO2.out _).mono ?_; rintro e x10 ⟨rfl, hc6⟩))
    go_ret
    have d1 := B9.out.trans (hc1.mono B9.out.size)
    have d2 := d1.trans (hc2.mono d1.size)
    have d3 := d2.trans (hc3.mono d2.size)
    have d4 := d3.trans (hc4.mono d3.size)
    have d5 := d4.trans (hc5.mono d4.size)
    exact ⟨rfl, d5.trans (hc6.mono d5.size)⟩
  | true =>
    have hput : putB bs r = bs ++ encB r := by unfold putB; rw [← HV.out]; rfl
    rw [hput] at PL P9 HPB
    have HBY := Lib.hid (fun w => refBytes_any r w HV.out.symm)
    have tok1 : True := trivial
    have hel := encB_len r
    obtain ⟨E, hE⟩ : ∃ E, E = (encB r).length := ⟨_, rfl⟩
    rw [← hE] at hel
    have HE := Lib.hid hE.symm
    have HPO := Lib.hid P9.out
    clear hput hE
    go_wp2_with (first
      | (go_at_call 17; refine (HS.out _).mono ?_; rintro e x1 ⟨rfl, rfl⟩)
      | (go_at_call 18; refine (HBY.out _).mono ?_; rintro e y1 ⟨x, rfl, hx, hc0⟩; obtain ⟨xb, xo, xc, rfl, hxc, hxby⟩ := isB_ne hx (fun h => by have := HE.out; rw [h] at this; simp at this; omega) E HE.out)
      | (at_builtin; clear tok1; refine wpList_append_bytes rfl (.tmp 86) (.tmp 88) 24 5 rfl Tryd.underlying24 info5 w.heap.size (.slice qa n qc) bs (encB r) (some ⟨xb, xo, none⟩) E xc (by go_simp) ?c1 (by go_simp) HE.out ?c2 ?c3 ?c4 ?c5 ?_))
    case c1 => exact Q9.out.below hc0
    case c2 => exact .inr ⟨xb, xo, rfl, hxby⟩
    case c3 => intro h; simp at h
    case c4 => rw [HL.out, HE.out]; omega
    case c5 => have := B9.out.size; have := hc0.size; omega
    intro v' y2 hO2 hg2 hd2
    obtain ⟨ao, c2, hv2⟩ := hO2.form'
    have hlen2 : (bs ++ encB r).length = n + E := by rw [List.length_append, HL.out, HE.out]
    rw [hlen2] at hv2
    subst hv2
    have d0 := B9.out.trans (hc0.mono B9.out.size)
    have D2 := Lib.hid (d0.trans hd2)
    have PY := Lib.hid ((P9.out.below hc0).grown hg2 (fun b' o' h1 h2 => by
      have h3 := HPB.out b' o' h1 (fun h => by have := HE.out; have h5 := congrArg List.length h; rw [List.length_append] at h5; simp at h5; rw [h5.2] at this; simp at this; omega)
      have h4 := HQB.out b' h2
      omega))
    have QY := Lib.hid (OwnB.bytes' hO2 hlen2)
    have HLN := Lib.hid hlen2
    have HC := Lib.hid (fun w => char_any r w); have HC2 := Lib.hid (fun w => refChar_any r w)
    have HK := Lib.hid (fun w => blank_any r w); have HK2 := Lib.hid (fun w => refBlank_any r w)
    have HG := Lib.hid (fun w => begins_any r w); have HG2 := Lib.hid (fun w => refBegins_any r w)
    have HO := Lib.hid (fun w => goes_any r w); have HO2 := Lib.hid (fun w => refGoes_any r w)
    clear hO2 hg2 hd2 d0 hlen2 hc0 hxby hx HPB HQB
    obtain ⟨X, hX⟩ : ∃ X, X = bs ++ encB r := ⟨_, rfl⟩
    rw [← hX] at PY QY HLN PL
    clear hX
    go_wp2_with (first
      | (go_at_call 17; refine (HS.out _).mono ?_; rintro e x1 ⟨rfl, rfl⟩)
      | (go_at_call 16; refine (same_any pa ao pn (n + E) pc c2 X X _ PL.out HLN.out (by omega) (by omega) PY.out QY.out).mono ?_; rw [decide_eq_true rfl]; rintro e x2 ⟨rfl, hc1⟩)
      | (go_at_call 9; refine (HC.out _).mono ?_; rintro e x3 ⟨rfl, hc2⟩)
      | (go_at_call 19; refine (HC2.out _).mono ?_; rintro e x4 ⟨rfl, rfl⟩)
      | (go_at_call 20; refine (HK.out _).mono ?_; rintro e x5 ⟨rfl, rfl⟩)
      | (go_at_call 21; refine (HK2.out _).mono ?_; rintro e x6 ⟨rfl, rfl⟩)
      | (go_at_call 22; refine (HG.out _).mono ?_; rintro e x7 ⟨rfl, hc3⟩)
      | (go_at_call 23; refine (HG2.out _).mono ?_; rintro e x8 ⟨rfl, hc4⟩)
      | (go_at_call 24; refine (HO.out _).mono ?_; rintro e x9 ⟨rfl, hc5⟩)
      | (go_at_call 25; refine (HO2.out _).mono ?_; rintro e x10 ⟨rfl, hc6⟩))
    go_ret
    have d1 := D2.out.trans (hc1.mono D2.out.size)
    have d2 := d1.trans (hc2.mono d1.size)
    have d3 := d2.trans (hc3.mono d2.size)
    have d4 := d3.trans (hc4.mono d3.size)
    have d5 := d4.trans (hc5.mono d4.size)
    exact ⟨rfl, d5.trans (hc6.mono d5.size)⟩

theorem lawS (bs : List UInt8) (a : Option Addr) (n cap : Nat) (k r : Int) (w : World) (hl : bs.length = n) (hn : n ≤ 9223372036854775807) (hcap : n ≤ cap) (hnil : a = none → n = 0 ∧ cap = 0)
    (hr : -2147483648 ≤ r ∧ r ≤ 2147483647) (hb : Bytes w a bs) (hT : Tabs w) (hT2 : Tab2 w) :
    Calls Tryd.prog 4 #[.slice a n cap, .int .i64 k, .int .i32 r] w fun e w' => e = .returned (.bool true) ∧ Below w.heap.size w w' := by
  by_cases h : 2000 < n
  · exact signs_long a n cap k r w h hn hT hT2
  · exact signs_walk a n cap k r bs w hl (by omega) hcap hnil hr hb hT hT2
end Go.Proofs.YthbjibgfhagonaaDoor
