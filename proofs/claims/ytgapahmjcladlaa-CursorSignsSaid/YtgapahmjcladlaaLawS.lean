/- A sign that is laid in bytes is found there, or ahead: the walk of the law. -/
import Derived.Test.YtgapahmjcladlaaAlive
import Derived.Deep.DeepCutAuto
namespace Go.Proofs.Ytgapahmjcladlaa
open Go.RowKit
set_option linter.unusedVariables false

/-- Bytes with a sign laid in them. -/
def laid (bs : List UInt8) (p v : Nat) : List UInt8 := (bs.take p ++ leB v 4) ++ bs.drop p
theorem laid_len (bs : List UInt8) (p v : Nat) (h : p ≤ bs.length) : (laid bs p v).length = bs.length + 4 := by
  unfold laid; rw [List.length_append, List.length_append, List.length_take, List.length_drop, leB_len]; omega
theorem laid_at (bs : List UInt8) (p v : Nat) (h : p ≤ bs.length) : atS (laid bs p v) p (leB v 4) := by
  refine ⟨by rw [laid_len bs p v h]; omega, ?_⟩
  unfold laid
  have h1 : (bs.take p).length = p := by rw [List.length_take]; omega
  rw [List.append_assoc, List.drop_append_of_le_length (by omega), List.drop_of_length_le (by omega), List.nil_append, List.take_append_of_le_length (by rw [leB_len]; omega), List.take_of_length_le (by rw [leB_len]; omega)]
theorem FirstIs.pos {bs s : List UInt8} {p : Nat} {r : Int} (h : FirstIs bs 0 s r) (hp : atS bs p s) : ∃ f : Nat, r = f ∧ f ≤ p ∧ atS bs f s ∧ ∀ i, i < f → ¬ atS bs i s := by
  rcases h with ⟨_, h2⟩ | ⟨k, h1, _, h3, h4⟩
  · exact absurd hp (h2 p (by omega))
  · refine ⟨k, h1, ?_, h3, fun i hi => h4 i (by omega) hi⟩
    rcases Nat.lt_or_ge p k with h | h
    · exact absurd hp (h4 p (by omega) h)
    · exact h
theorem LastIs.pos {bs s : List UInt8} {p : Nat} {r : Int} (h : LastIs bs s r) (hp : atS bs p s) : ∃ l : Nat, r = l ∧ p ≤ l ∧ atS bs l s ∧ ∀ i, l < i → ¬ atS bs i s := by
  rcases h with ⟨_, h2⟩ | ⟨k, h1, h3, h4⟩
  · exact absurd hp (h2 p)
  · refine ⟨k, h1, ?_, h3, h4⟩
    rcases Nat.lt_or_ge k p with h | h
    · exact absurd hp (h4 p h)
    · exact h

set_option maxRecDepth 100000 in
set_option maxHeartbeats 4000000 in
theorem lawS_in (bs : List UInt8) (a : Option Addr) (n cap p : Nat) (v : Nat) (w : World) (hl : bs.length = n) (hn : n ≤ 1000) (hcap : n ≤ cap) (hnil : a = none → n = 0 ∧ cap = 0) (hb : Bytes w a bs) (hp : p ≤ n) (hv : v < 4294967296) (hT : Tab w) :
    Calls Try.prog 5 #[.slice a n cap, .int .u32 v, .int .i64 p] w fun e w' => e = .returned (.bool true) ∧ Below w.heap.size w w' := by
  have HA := Lib.hid (alive_any w hT)
  have HL := Lib.hid hl; have HB := Lib.hid hb; have HN := Lib.hid hnil; have HT := Lib.hid hT
  clear hl hb hnil hT
  have g1 : ¬ (p : Int) < 0 := by omega
  have g2 : ¬ (n : Int) < (p : Int) := by omega
  have g3 : ¬ (1000 : Int) < (n : Int) := by omega
  go_enter Try.func5, Try.ntmps5
  go_wp2_with fail
  refine HA.out.mono ?_
  rintro e w1 ⟨rfl, hb1⟩
  have HB1 := Lib.hid hb1
  have HY1 := Lib.hid (HB.out.below hb1)
  have HT1 := Lib.hid (HT.out.below hb1)
  clear hb1 HB HT HA
  go_upto_region 5 with fail
  go_cut [7] (fun s7 wx => ∃ o c, s7 = .slice o p c ∧ Hid (OwnB wx w1.heap.size 5 (.slice o p c) (bs.take p)) ∧ Hid (Below w1.heap.size w1 wx))
  case first =>
    have HLT : Hid ((bs.take p).length = p) := by unfold Hid; rw [List.length_take, HL.out]; omega
    have hbe : Below w1.heap.size w1 (w1.alloc (.cells #[] 5)) := (Below.refl _ _).alloc (Nat.le_refl _) _
    have HYE := Lib.hid ((HY1.out.take p).below hbe)
    have HOE := Lib.hid (OwnB.empty w1 5)
    have HBE := Lib.hid hbe
    have HSZ : Hid (w1.heap.size ≤ (w1.alloc (.cells #[] 5)).heap.size) := Lib.hid hbe.size
    have HLN : Hid (([] : List UInt8).length + (bs.take p).length ≤ 140737488355328) := by unfold Hid; rw [HLT.out]; simp; omega
    clear hbe
    cases a with
    | none =>
      obtain ⟨e1, e2⟩ := HN.out rfl
      subst e1; subst e2
      have hp0 : p = 0 := by omega
      subst hp0
      go_wp2_with (at_builtin; go_loud (refine wpList_append_bytes rfl (.tmp 29) (.tmp 32) 22 5 rfl Try.underlying22 info5 w1.heap.size _ [] (bs.take 0) none 0 0 rfl HOE.out rfl HLT.out HYE.out (fun _ => rfl) HLN.out HSZ.out ?_))
      rintro v4 w4 hO4 hg4 hb4
      obtain ⟨o4, c4, hv4⟩ := hO4.form'
      have hv5 : v4 = Value.slice o4 0 c4 := by rw [hv4]; exact congrArg (fun k => Value.slice o4 k c4) HLT.out
      subst hv5
      clear hv4
      have HO4 := Lib.hid hO4
      have HB4 := Lib.hid (HBE.out.trans hb4)
      clear hO4 hg4 hb4
      go_wp2_with fail
      go_meet
      exact ⟨o4, c4, rfl, HO4, HB4⟩
    | some ad =>
      have hcp : p ≤ cap := by omega
      go_wp2_with (at_builtin; go_loud (refine wpList_append_bytes rfl (.tmp 29) (.tmp 32) 22 5 rfl Try.underlying22 info5 w1.heap.size _ [] (bs.take p) (some ad) p cap rfl HOE.out rfl HLT.out HYE.out (fun h => by cases h) HLN.out HSZ.out ?_))
      rintro v4 w4 hO4 hg4 hb4
      obtain ⟨o4, c4, hv4⟩ := hO4.form'
      have hv5 : v4 = Value.slice o4 p c4 := by rw [hv4]; exact congrArg (fun k => Value.slice o4 k c4) HLT.out
      subst hv5
      clear hv4
      have HO4 := Lib.hid hO4
      have HB4 := Lib.hid (HBE.out.trans hb4)
      clear hO4 hg4 hb4
      go_wp2_with fail
      go_meet
      exact ⟨o4, c4, rfl, HO4, HB4⟩
  case rest =>
    obtain ⟨o, c, rfl, HO, HB2⟩ := hcut
    have hw : IntKind.i64.wrap (v : Int) = (v : Int) := by rw [IntWalk.i64_in _ ⟨by omega, by omega⟩]
    go_wp2_with fail
    have hwv : writeV [⟨1, v, []⟩] = leB v 4 := by simp [writeV, encF]
    have hb3 : Below wc.heap.size wc (wc.alloc (.cells #[.int .i64 1, .int .i64 v, .slice none 0 0] 39)) := (Below.refl _ _).alloc (Nat.le_refl _) _
    have hbk := alloc_at wc (.cells #[.int .i64 1, .int .i64 v, .slice none 0 0] 39)
    have HFS : Hid (Fs 0 (wc.alloc (.cells #[.int .i64 1, .int .i64 v, .slice none 0 0] 39)) (some ⟨wc.heap.size, 0, none⟩) [⟨1, v, []⟩]) := Lib.hid (fun i f hi => by
      match i with
      | 0 =>
        simp at hi
        subst hi
        exact ⟨_, rfl, cell_blk hbk 0 rfl, cell_blk hbk 1 rfl, _, cell_blk hbk 2 rfl, Bv.nil _ _⟩
      | k + 1 => simp at hi)
    have HO3 := Lib.hid (HO.out.below hb3); have HB3 := Lib.hid (below_step HB2.out hb3)
    have HWR := Lib.hid (write_any 0 (some ⟨wc.heap.size, 0, none⟩) 1 1 [⟨1, v, []⟩] rfl (by omega) (by rw [hwv, leB_len]; omega) (by intro f hf; simp at hf; subst hf; exact hv) _ HFS.out)
    rw [hwv] at HWR
    clear hb3 hbk HFS HO HB2 hwv
    refine HWR.out.mono ?_
    rintro e w4 ⟨x, rfl, hO4, hb4⟩
    obtain ⟨xo, xc, hx, _, hxn⟩ := hO4.form3
    rw [leB_len] at hx
    subst hx
    have HX4 := Lib.hid (hO4.bytes' (leB_len _ _))
    have HXN := Lib.hid hxn
    have HO4 := Lib.hid (HO3.out.below hb4); have HB4 := Lib.hid (below_step HB3.out hb4)
    have HLN : Hid ((bs.take p).length + (leB v 4).length ≤ 140737488355328) := by unfold Hid; rw [List.length_take, leB_len]; omega
    clear HO3 HB3 HWR hO4 hb4 hxn
    go_wp2_with (at_builtin; go_loud (refine wpList_append_bytes rfl (.tmp 34) (.tmp 39) 22 5 rfl Try.underlying22 info5 w1.heap.size _ (bs.take p) (leB v 4) xo 4 xc rfl HO4.out rfl (leB_len _ _) HX4.out HXN.out HLN.out HB4.out.size ?_))
    rintro v5 w5 hO5 hg5 hb5
    obtain ⟨o5, c5, hv5⟩ := hO5.form'
    have hL5 : (bs.take p ++ leB v 4).length = p + 4 := by rw [List.length_append, List.length_take, leB_len, HL.out]; omega
    rw [hL5] at hv5
    subst hv5
    have HO5 := Lib.hid hO5
    have HB5 := Lib.hid (HB4.out.trans hb5)
    clear hO5 hg5 hb5 HO4 HB4 HX4 hL5
    obtain ⟨X, hX⟩ : ∃ X, X = bs.take p ++ leB v 4 := ⟨_, rfl⟩
    obtain ⟨Y, hY⟩ : ∃ Y, Y = bs.drop p := ⟨_, rfl⟩
    obtain ⟨Z, hZ⟩ : ∃ Z, Z = laid bs p v := ⟨_, rfl⟩
    have HZE := Lib.hid hZ
    have HXY : Hid (X ++ Y = Z) := Lib.hid (by rw [hX, hY, hZ]; rfl)
    have HLX : Hid (X.length = p + 4) := Lib.hid (by rw [hX, List.length_append, List.length_take, leB_len, HL.out]; omega)
    have HYE := Lib.hid hY
    rw [← hX] at HO5
    clear hX hY hZ
    go_upto_region 7 with fail
    go_cut [7] (fun s7 wx => ∃ o c, s7 = .slice o (n + 4) c ∧ Hid (n + 4 ≤ c) ∧ Hid (o = none → c = 0) ∧ Hid (Bytes wx o Z) ∧ Hid (Below w1.heap.size w1 wx))
    case first =>
      have HLD : Hid (Y.length = n - p) := by unfold Hid; rw [HYE.out, List.length_drop, HL.out]
      have HY5 := Lib.hid (HY1.out.below HB5.out)
      have HLN2 : Hid (X.length + Y.length ≤ 140737488355328) := by unfold Hid; rw [HLD.out, HLX.out]; omega
      have HLL : Hid (Z.length = n + 4) := by unfold Hid; rw [HZE.out, laid_len bs p v (by rw [HL.out]; exact hp), HL.out]
      cases a with
      | none =>
        obtain ⟨e1, e2⟩ := HN.out rfl
        subst e1; subst e2
        have hp0 : p = 0 := by omega
        subst hp0
        go_wp2_with (at_builtin; go_loud (refine wpList_append_bytes rfl (.tmp 41) (.tmp 44) 22 5 rfl Try.underlying22 info5 w1.heap.size _ X Y none 0 0 rfl HO5.out rfl HLD.out (.inl (List.length_eq_zero_iff.1 HLD.out)) (fun _ => rfl) HLN2.out HB5.out.size ?_))
        rintro v6 w6 hO6 hg6 hb6
        have hO7 : OwnB w6 w1.heap.size 5 v6 Z := HXY.out ▸ hO6
        obtain ⟨o6, c6, hv6, hc6, hn6⟩ := hO7.form3
        rw [HLL.out] at hv6 hc6
        subst hv6
        have HY6 := Lib.hid (hO7.bytes' HLL.out)
        have HB6 := Lib.hid (HB5.out.trans hb6)
        have HC6 := Lib.hid hc6; have HN6 := Lib.hid hn6
        clear hO6 hO7 hg6 hb6 hc6 hn6 HY5
        go_wp2_with fail
        go_meet
        exact ⟨o6, c6, rfl, HC6, HN6, HY6, HB6⟩
      | some ad =>
        rcases HY5.out with hnb | ⟨b, ob, had, hc⟩
        · have hn0 : n = 0 := by have := HL.out; rw [hnb] at this; simpa using this.symm
          have hp0 : p = 0 := by omega
          subst hn0; subst hp0
          by_cases hc0 : cap = 0
          · subst hc0
            go_wp2_with (at_builtin; go_loud (refine wpList_append_bytes rfl (.tmp 41) (.tmp 44) 22 5 rfl Try.underlying22 info5 w1.heap.size _ X Y (some ad) 0 0 rfl HO5.out rfl HLD.out (.inl (List.length_eq_zero_iff.1 HLD.out)) (fun h => by cases h) HLN2.out HB5.out.size ?_))
            rintro v6 w6 hO6 hg6 hb6
            have hO7 : OwnB w6 w1.heap.size 5 v6 Z := HXY.out ▸ hO6
            obtain ⟨o6, c6, hv6, hc6, hn6⟩ := hO7.form3
            rw [HLL.out] at hv6 hc6
            subst hv6
            have HY6 := Lib.hid (hO7.bytes' HLL.out)
            have HB6 := Lib.hid (HB5.out.trans hb6)
            have HC6 := Lib.hid hc6; have HN6 := Lib.hid hn6
            clear hO6 hO7 hg6 hb6 hc6 hn6 HY5
            go_wp2_with fail
            go_meet
            exact ⟨o6, c6, rfl, HC6, HN6, HY6, HB6⟩
          · skip
            go_wp2_with (at_builtin; go_loud (refine wpList_append_bytes rfl (.tmp 41) (.tmp 44) 22 5 rfl Try.underlying22 info5 w1.heap.size _ X Y (some ad) 0 cap rfl HO5.out rfl HLD.out (.inl (List.length_eq_zero_iff.1 HLD.out)) (fun h => by cases h) HLN2.out HB5.out.size ?_))
            rintro v6 w6 hO6 hg6 hb6
            have hO7 : OwnB w6 w1.heap.size 5 v6 Z := HXY.out ▸ hO6
            obtain ⟨o6, c6, hv6, hc6, hn6⟩ := hO7.form3
            rw [HLL.out] at hv6 hc6
            subst hv6
            have HY6 := Lib.hid (hO7.bytes' HLL.out)
            have HB6 := Lib.hid (HB5.out.trans hb6)
            have HC6 := Lib.hid hc6; have HN6 := Lib.hid hn6
            clear hO6 hO7 hg6 hb6 hc6 hn6 HY5
            go_wp2_with fail
            go_meet
            exact ⟨o6, c6, rfl, HC6, HN6, HY6, HB6⟩
        · cases had
          have HC := Lib.hid hc
          clear hc
          by_cases hcp : cap = p
          · have hpn : p = n := by omega
            subst hcp
            subst hpn
            go_wp2_with (at_builtin; go_loud (refine wpList_append_bytes rfl (.tmp 41) (.tmp 44) 22 5 rfl Try.underlying22 info5 w1.heap.size _ X Y _ 0 0 rfl HO5.out rfl (by have := HLD.out; omega) (.inl (List.length_eq_zero_iff.1 (by have := HLD.out; omega))) (fun h => by cases h) HLN2.out HB5.out.size ?_))
            rintro v6 w6 hO6 hg6 hb6
            have hO7 : OwnB w6 w1.heap.size 5 v6 Z := HXY.out ▸ hO6
            obtain ⟨o6, c6, hv6, hc6, hn6⟩ := hO7.form3
            rw [HLL.out] at hv6 hc6
            subst hv6
            have HY6 := Lib.hid (hO7.bytes' HLL.out)
            have HB6 := Lib.hid (HB5.out.trans hb6)
            have HC6 := Lib.hid hc6; have HN6 := Lib.hid hn6
            clear hO6 hO7 hg6 hb6 hc6 hn6 HY5
            go_wp2_with fail
            go_meet
            exact ⟨o6, c6, rfl, HC6, HN6, HY6, HB6⟩
          · have hcp2 : ¬ cap - p = 0 := by omega
            have HYC : Hid (Bytes w5 (some ⟨b, ob + p, none⟩) Y) := by rw [HYE.out]; exact Lib.hid (Bytes.drop HC.out p)
            go_wp2_with (at_builtin; go_loud (refine wpList_append_bytes rfl (.tmp 41) (.tmp 44) 22 5 rfl Try.underlying22 info5 w1.heap.size _ X Y (some ⟨b, ob + p, none⟩) (n - p) (cap - p) rfl HO5.out rfl HLD.out HYC.out (fun h => by cases h) HLN2.out HB5.out.size ?_))
            rintro v6 w6 hO6 hg6 hb6
            have hO7 : OwnB w6 w1.heap.size 5 v6 Z := HXY.out ▸ hO6
            obtain ⟨o6, c6, hv6, hc6, hn6⟩ := hO7.form3
            rw [HLL.out] at hv6 hc6
            subst hv6
            have HY6 := Lib.hid (hO7.bytes' HLL.out)
            have HB6 := Lib.hid (HB5.out.trans hb6)
            have HC6 := Lib.hid hc6; have HN6 := Lib.hid hn6
            clear hO6 hO7 hg6 hb6 hc6 hn6 HY5
            go_wp2_with fail
            go_meet
            exact ⟨o6, c6, rfl, HC6, HN6, HY6, HB6⟩
    case rest =>
      obtain ⟨co, cc, rfl, HCC, HCN, HCY, HB6⟩ := hcut
      obtain ⟨w6, hw6⟩ : ∃ x, x = wc := ⟨_, rfl⟩
      have HY6 : Hid (Bytes w6 co Z) := by rw [hw6]; exact HCY
      have HT6 : Hid (Tab w6) := by rw [hw6]; exact Lib.hid (HT1.out.below HB6.out)
      have HB7 : Hid (Below w.heap.size w w6) := by rw [hw6]; exact Lib.hid (HB1.out.trans (HB6.out.mono HB1.out.size))
      have HZL : Hid (Z.length = n + 4) := by unfold Hid; rw [HZE.out, laid_len bs p v (by rw [HL.out]; exact hp), HL.out]
      have HZA : Hid (atS Z p (leB v 4)) := by rw [HZE.out]; exact Lib.hid (laid_at bs p v (by rw [HL.out]; exact hp))
      rw [← hw6]
      clear hw6 HCY HB6 HT1 HB1 HXY HLX HYE HO5 HB5 HZE HY1 HLN HXN
      go_wp2_with fail
      refine (first_any co (n + 4) cc v 0 Z HZL.out (by omega) HCC.out (fun h => ⟨by have h1 := HCN.out h; have h2 := HCC.out; omega, HCN.out h⟩) hv w6 HY6.out HT6.out).mono ?_
      rintro e w7 ⟨⟨r1, rfl, hr1⟩, h7⟩
      obtain ⟨f, rfl, hfp, hfa, hfn⟩ := FirstIs.pos hr1 HZA.out
      have HF := Lib.hid hfa; have HFN := Lib.hid hfn
      have HY7 := Lib.hid (HY6.out.below h7); have HT7 := Lib.hid (HT6.out.below h7); have HB8 := Lib.hid (below_step HB7.out h7)
      clear hr1 hfa hfn h7 HY6 HT6 HB7
      go_wp2_with fail
      refine (last_any co (n + 4) cc v Z HZL.out (by omega) HCC.out hv w7 HY7.out).mono ?_
      rintro e w8 ⟨⟨r2, rfl, hr2⟩, h8⟩
      obtain ⟨l, rfl, hlp, hla, hln⟩ := LastIs.pos hr2 HZA.out
      have HLA := Lib.hid hla; have HLN := Lib.hid hln
      have hlN : l ≤ n := by have := hla.1; rw [HZL.out] at this; omega
      have HY8 := Lib.hid (HY7.out.below h8); have HT8 := Lib.hid (HT7.out.below h8); have HB9 := Lib.hid (below_step HB8.out h8)
      clear hr2 hla hln h8 HY7 HT7 HB8 HZA
      have g4 : ¬ (p : Int) < (f : Int) := by omega
      have g5 : ¬ (l : Int) < (p : Int) := by omega
      have z1 : decide ((f : Int) < 0) = false := decide_eq_false (by omega)
      have z2 : decide ((p : Int) < (f : Int)) = false := decide_eq_false g4
      have z3 : decide ((l : Int) < (p : Int)) = false := decide_eq_false g5
      have z4 : decide (p < f) = false := decide_eq_false (by omega)
      have z5 : decide (l < p) = false := decide_eq_false (by omega)
      go_wp2_with fail
      go_loopw [10] (fun i wr => ∃ (j : Nat), j ≤ n + 5 ∧ i = .int .i64 j ∧ wr = w8) (fun i _ => n + 5 - (intOf i).toNat)
      case atStart => exact ⟨0, by omega, rfl, rfl⟩
      case round =>
        obtain ⟨j, hj, rfl, rfl⟩ := hrel
        by_cases hlt : j ≤ n + 4
        · have i1 : (j : Int) ≤ (n : Int) + 4 := by omega
          have HC := Lib.hid (u32_any co (n + 4) cc j Z HZL.out (by omega) HCC.out (fun h => ⟨by have h1 := HCN.out h; have h2 := HCC.out; omega, HCN.out h⟩) wr HY8.out)
          by_cases hin : j + 4 ≤ n + 4
          · have HNN := Lib.hid (at_num (bs := Z) (p := j) hv (by rw [HZL.out]; exact hin))
            have HLTV := Lib.hid (numV_lt Z j 4)
            have HFT : Hid (decide (fits (n + 4) (j : Int) 4) = true) := decide_eq_true ⟨by omega, by omega, by omega, by omega⟩
            generalize numV Z (j : Int) 4 = V at HNN HLTV HC
            rw [HFT.out] at HC
            have hV : V < 4294967296 := HLTV.out
            go_wp2_with fail
            refine HC.out.mono ?_
            rintro e wy ⟨rfl, hww⟩
            rw [hww]
            clear hww wy HC
            have hw : IntKind.u32.wrap (V : Int) = (V : Int) := by
              have e4 : IntKind.u32.signed = false := rfl
              simp only [IntKind.wrap, IntKind.bits, e4]; simp; omega
            by_cases he : V = v
            · have hat := HNN.out.1 he
              have hee : ((V : Int) == (v : Int)) = true := by rw [he]; simp
              have b1 : ¬ j < f := fun h => HFN.out j h hat
              have b2 : ¬ l < j := fun h => HLN.out j h hat
              have b3 : ¬ (j : Int) < (f : Int) := by omega
              have b4 : ¬ (l : Int) < (j : Int) := by omega
              clear hat he b1 b2
              go_wp2_with fail
              go_roundw
              case rel => exact ⟨j + 1, by omega, by simp, trivial⟩
              case measure => simp [intOf]; omega
            · have hat : ¬ atS Z j (leB v 4) := fun h => he (HNN.out.2 h)
              have hee : ((V : Int) == (v : Int)) = false := by rw [beq_eq_false_iff_ne]; omega
              have b1 : j ≠ f := fun h => hat (h ▸ HF.out)
              have b2 : j ≠ l := fun h => hat (h ▸ HLA.out)
              have b3 : ((j : Int) == (f : Int)) = false := by rw [beq_eq_false_iff_ne]; omega
              have b4 : ((j : Int) == (l : Int)) = false := by rw [beq_eq_false_iff_ne]; omega
              clear hat he b1 b2
              go_wp2_with fail
              go_roundw
              case rel => exact ⟨j + 1, by omega, by simp, trivial⟩
              case measure => simp [intOf]; omega
          · have HFT : Hid (decide (fits (n + 4) (j : Int) 4) = false) := decide_eq_false (by unfold fits; omega)
            generalize numV Z (j : Int) 4 = V at HC
            rw [HFT.out] at HC
            have b3 : ((j : Int) == (f : Int)) = false := by rw [beq_eq_false_iff_ne]; omega
            have b4 : ((j : Int) == (l : Int)) = false := by rw [beq_eq_false_iff_ne]; omega
            go_wp2_with fail
            refine HC.out.mono ?_
            rintro e wy ⟨rfl, hww⟩
            rw [hww]
            clear hww wy HC
            go_wp2_with fail
            go_roundw
            case rel => exact ⟨j + 1, by omega, by simp, trivial⟩
            case measure => simp [intOf]; omega
        · have i1 : ¬ (j : Int) ≤ (n : Int) + 4 := by omega
          go_wp2_with fail
          refine (first_any co (n + 4) cc v ((l : Int) + 1) Z HZL.out (by omega) HCC.out (fun h => ⟨by have h1 := HCN.out h; have h2 := HCC.out; omega, HCN.out h⟩) hv wr HY8.out HT8.out).mono ?_
          rintro e w9 ⟨⟨r3, rfl, hr3⟩, h9⟩
          have hr : r3 = -1 := by
            refine FirstIs.eq hr3 (.inl ⟨rfl, fun i hi ha => HLN.out i (by omega) ha⟩)
          subst hr
          have HBZ := Lib.hid (below_step HB9.out h9)
          clear hr3 h9
          go_wp2_with fail
          go_ret
          exact ⟨rfl, HBZ.out⟩
theorem lawS_long (a : Option Addr) (n cap : Nat) (p : Int) (v : Nat) (w : World) (h : (1000 : Int) < n) (hT : Tab w) :
    Calls Try.prog 5 #[.slice a n cap, .int .u32 v, .int .i64 p] w fun e w' => e = .returned (.bool true) ∧ Below w.heap.size w w' := by
  have HA := Lib.hid (alive_any w hT)
  clear hT
  go_enter Try.func5, Try.ntmps5
  go_wp2_with fail
  refine HA.out.mono ?_
  rintro e w1 ⟨rfl, hb1⟩
  go_wp2_with fail
  go_ret
  exact ⟨rfl, hb1⟩
theorem lawS_neg (a : Option Addr) (n cap : Nat) (p : Int) (v : Nat) (w : World) (h0 : ¬ (1000 : Int) < n) (h : p < 0) (hT : Tab w) :
    Calls Try.prog 5 #[.slice a n cap, .int .u32 v, .int .i64 p] w fun e w' => e = .returned (.bool true) ∧ Below w.heap.size w w' := by
  have HA := Lib.hid (alive_any w hT)
  clear hT
  go_enter Try.func5, Try.ntmps5
  go_wp2_with fail
  refine HA.out.mono ?_
  rintro e w1 ⟨rfl, hb1⟩
  go_wp2_with fail
  go_ret
  exact ⟨rfl, hb1⟩
theorem lawS_far (a : Option Addr) (n cap : Nat) (p : Int) (v : Nat) (w : World) (h0 : ¬ (1000 : Int) < n) (h1 : ¬ p < 0) (h : (n : Int) < p) (hT : Tab w) :
    Calls Try.prog 5 #[.slice a n cap, .int .u32 v, .int .i64 p] w fun e w' => e = .returned (.bool true) ∧ Below w.heap.size w w' := by
  have HA := Lib.hid (alive_any w hT)
  clear hT
  go_enter Try.func5, Try.ntmps5
  go_wp2_with fail
  refine HA.out.mono ?_
  rintro e w1 ⟨rfl, hb1⟩
  go_wp2_with fail
  go_ret
  exact ⟨rfl, hb1⟩
theorem lawS (bs : List UInt8) (a : Option Addr) (n cap v : Nat) (p : Int) (w : World) (hl : bs.length = n) (hcap : n ≤ cap) (hnil : a = none → n = 0 ∧ cap = 0) (hb : Bytes w a bs) (hv : v < 4294967296) (hT : Tab w) :
    Calls Try.prog 5 #[.slice a n cap, .int .u32 v, .int .i64 p] w fun e w' => e = .returned (.bool true) ∧ Below w.heap.size w w' := by
  by_cases h1 : (1000 : Int) < n
  · exact lawS_long a n cap p v w h1 hT
  by_cases h2 : p < 0
  · exact lawS_neg a n cap p v w h1 h2 hT
  by_cases h3 : (n : Int) < p
  · exact lawS_far a n cap p v w h1 h2 h3 hT
  obtain ⟨q, rfl⟩ : ∃ q : Nat, p = q := ⟨p.toNat, by omega⟩
  exact lawS_in bs a n cap q v w hl (by omega) hcap hnil hb (by omega) hv hT
end Go.Proofs.Ytgapahmjcladlaa
