/- The walk of MatchCuts: it returns true for all bytes at every level. -/
import Derived.Test.YtegfacepnklbjaaAlive
namespace Go.Proofs.Ytegfacepnklbjaa
open Go.RowKit Go.Maps
set_option linter.unusedVariables false

theorem cuts_long (a c : Option Addr) (n cap m cap2 : Nat) (lv : Int) (w : World) (hn2 : n ≤ 9223372036854775807) (hm2 : m ≤ 9223372036854775807) (h : 1000 < n ∨ 1000 < m) :
    Calls Try.prog 5 #[.slice a n cap, .slice c m cap2, .int .i64 lv] w fun e w' => e = .returned (.bool true) ∧ Below w.heap.size w w' := by
  have HA := Lib.hid (alive_any w)
  have HH := Lib.hid h
  clear h
  by_cases h1 : 1000 < n
  · have f1 : (1000 : Int) < (n : Int) := by omega
    go_enter Try.func5, Try.ntmps5
    go_wp2_with (go_at_call 6; refine HA.out.mono ?_; rintro e w1 ⟨rfl, hb1⟩)
    go_ret
    exact ⟨rfl, hb1⟩
  have f1 : ¬ (1000 : Int) < (n : Int) := by omega
  have f2 : (1000 : Int) < (m : Int) := by have := HH.out; omega
  go_enter Try.func5, Try.ntmps5
  go_wp2_with (go_at_call 6; refine HA.out.mono ?_; rintro e w1 ⟨rfl, hb1⟩)
  go_ret
  exact ⟨rfl, hb1⟩
theorem wpList_wanted {P : Program} {ops : Array Oper} {rest : List Oper} {o : Oper} {a : Act} {w : World} {Q : Exit → Act → World → Prop} (hw : Region.wanted o (yielded ops a.tmps) = true)
    (h : ∀ K : Act → World → Prop, (∀ a w, wpList P ops Q rest a w → K a w) → o.wp P a w K Q) : wpList P ops Q (o :: rest) a w :=
  wpList_step fun K hK => by rw [if_pos hw]; exact h K hK
/-- Bytes are appended where a guard lets them. -/
theorem wpList_append_bytes_if {P : Program} {ops : Array Oper} {rest : List Oper} {o : Oper} {a : Act} {w : World} {Q : Exit → Act → World → Prop} (hw : Region.wanted o (yielded ops a.tmps) = true) (s x : Operand) (t e : TypeId)
    (ho : o.op = .call { callee := .builtin .append, args := #[s, x], argTypes := #[t, t] }) (ht : P.underlying t = some (.slice e))
    (hinfo : (P.info? e).map (fun i => (i.zero, i.size, i.bytes)) = some (some (.int .u8 0), 1, 1))
    (B : Nat) (v : Value) (us cs : List UInt8) (ad : Option Addr) (n cap : Nat) (hs : a.eval s = v) (hown : OwnB w B e v us) (hx : a.eval x = .slice ad n cap) (hn : cs.length = n) (hb : Bytes w ad cs) (hnil : ad = none → cap = 0)
    (hlen : us.length + cs.length ≤ 140737488355328) (hB : B ≤ w.heap.size)
    (h : ∀ v' w', OwnB w' B e v' (us ++ cs) → w.grownBy w' v.ownBlock → Below B w w' → wpList P ops Q rest (a.put o.dst v') w') : wpList P ops Q (o :: rest) a w := by
  subst hn
  obtain ⟨i0, hi, hz0, hz1, hz2⟩ := info_parts hinfo
  refine wpList_wanted hw fun K hK => ?_
  have go : ∀ (y : Addr), a.eval x = .slice (some y) cs.length cap → (∀ j u, (cs.map bval)[j]? = some u → w.cell? (y.add j) = some u) → o.wp P a w K Q := fun y hy hc => by
    refine wp_append_own _ s x t ho B e i0 (.int .u8 0) 1 1 ht hi hz0 hz1 hz2 rfl (by decide) v us.length (us.map bval) hs hown y cs.length cap (cs.map bval) hy (by simp) hc (fun u hu => ?_) (by unfold maxLen; omega) (by omega) hB ?_
    · obtain ⟨c, _, rfl⟩ := List.mem_map.1 hu; rfl
    · intro v' w' h1 h2 _
      refine hK _ _ (h v' w' ?_ h2 (below_of_grown h2 hB (own_block hown)))
      unfold OwnB
      rw [List.length_append, List.map_append]
      exact h1
  rcases hb with rfl | ⟨b, f, rfl, hc⟩
  · cases ad with
    | none =>
      have : cap = 0 := hnil rfl
      subst this
      have hrun := run_append_owned_none (P := P) (w := w) B t o.type e i0 1 ht hi v us.length (us.map bval) hown
      unfold Oper.wp
      simp [execOp, ho, resolve, invoke, builtin, hs, hx, hrun, Result.andThen]
      exact hK _ _ (h v w (by rw [List.append_nil]; exact hown) (World.grownBy.refl _ _) (Below.refl _ _))
    | some y => exact go y hx (fun j u hj => by simp at hj)
  · refine go _ hx fun j u hj => ?_
    rw [List.getElem?_map] at hj
    cases hcj : cs[j]? with
    | none => rw [hcj] at hj; simp at hj
    | some c =>
      rw [hcj] at hj
      have : bval c = u := by simpa using hj
      have hadd : (⟨b, f, none⟩ : Addr).add j = ⟨b, f + j, none⟩ := by unfold Addr.add; split <;> simp_all
      rw [hadd, ← this]
      exact hc j c hcj
theorem ends_take {p : Nat} {ts : List Tk} {k : Nat} {t : Tk} (h : ts[k]? = some t) : ends p (ts.take (k + 1)) = ends p (ts.take k) + max t.len 1 := by
  rw [List.take_add_one, h]
  exact ends_snoc _ _ _
theorem tells_exp {b : List UInt8} {ts : List Tk} (h : Tells b 0 ts) (k lim : Nat) (hl : ends 0 (ts.take k) = lim) : expT lim [] (ts.take k) = (b.take lim, 0) := by
  have := exp_tells (lim := lim) (tells_take h k) (Nat.zero_le _) (by omega)
  rw [hl, List.take_zero] at this
  exact this

set_option maxRecDepth 100000 in
set_option maxHeartbeats 2000000 in
theorem cuts_walk (a c : Option Addr) (n cap m cap2 : Nat) (lv : Int) (us vs : List UInt8) (w : World) (hl : us.length = n) (hm : vs.length = m) (hn : n ≤ 1000) (hm2 : m ≤ 1000) (hcap : n ≤ cap) (hcap2 : m ≤ cap2) (hnil : a = none → n = 0 ∧ cap = 0) (hnil2 : c = none → m = 0 ∧ cap2 = 0)
    (hlv : -9223372036854775808 ≤ lv ∧ lv ≤ 9223372036854775807) (hb : Bytes w a us) (hc : Bytes w c vs) :
    Calls Try.prog 5 #[.slice a n cap, .slice c m cap2, .int .i64 lv] w fun e w' => e = .returned (.bool true) ∧ Below w.heap.size w w' := by
  have HA := Lib.hid (alive_any w)
  have HU := Lib.hid hl; have HV := Lib.hid hm; have HB := Lib.hid hb; have HC := Lib.hid hc; have HN := Lib.hid hnil; have HN2 := Lib.hid hnil2
  have f1 : ¬ (1000 : Int) < (n : Int) := by omega
  have f2 : ¬ (1000 : Int) < (m : Int) := by omega
  clear hl hm hb hc hnil hnil2
  go_enter Try.func5, Try.ntmps5
  go_wp2_with fail
  refine HA.out.mono ?_
  rintro e w1 ⟨rfl, h1⟩
  have B1 := Lib.hid h1
  clear h1 HA
  have UB := Lib.hid (HB.out.below B1.out)
  go_wp2_with fail
  refine (find_any a n cap us lv HU.out (by omega) hcap hlv w1 UB.out).mono ?_
  rintro e w2 ⟨v, xs, rfl, hO, hF, h2⟩
  obtain ⟨xa, xc, hv, hxc, hxn⟩ := hO.form
  subst hv
  have B2 := Lib.hid (B1.out.trans (h2.mono B1.out.size)); have X2 := Lib.hid hO.toks; have FX := Lib.hid hF
  have hxl : xs.length ≤ n := by have := found_len hF; rw [HU.out] at this; exact this
  have XN := Lib.hid hxn
  clear hO h2 hF B1 UB hxn
  have VB := Lib.hid (HC.out.below B2.out)
  go_wp2_with fail
  refine (find_any c m cap2 vs lv HV.out (by omega) hcap2 hlv w2 VB.out).mono ?_
  rintro e w3 ⟨v, ys, rfl, hO, hF, h3⟩
  obtain ⟨ya, yc, hv, hyc, hyn⟩ := hO.form
  subst hv
  have B3 := Lib.hid (B2.out.trans (h3.mono B2.out.size)); have X3 := Lib.hid (X2.out.below h3); have Y3 := Lib.hid hO.toks; have FY := Lib.hid hF
  have hyl : ys.length ≤ m := by have := found_len hF; rw [HV.out] at this; exact this
  have YN := Lib.hid hyn
  clear hO h3 hF B2 VB X2 hyn hyc
  have HO1 : Hid (OwnT (w3.alloc (.cells #[] 34)) w3.heap.size 34 (.slice (some ⟨w3.heap.size, 0, none⟩) 0 0) []) := OwnT.empty w3 34
  have X4 := Lib.hid (X3.out.below ((Below.refl w3.heap.size w3).alloc (Nat.le_refl _) (.cells #[] 34))); have Y4 := Lib.hid (Y3.out.below ((Below.refl w3.heap.size w3).alloc (Nat.le_refl _) (.cells #[] 34)))
  have B4 : Hid (Below w.heap.size w (w3.alloc (.cells #[] 34))) := B3.out.alloc B3.out.size _
  have hle1 : Hid (([] : List Tk).length + xs.length ≤ 1099511627776) := by unfold Hid; simp; omega
  have hbs : Hid (w3.heap.size ≤ (w3.alloc (.cells #[] 34)).heap.size) := by unfold Hid; rw [World.size_alloc]; omega
  have tok1 : True := trivial
  go_wp2_with (first
    | (at_builtin; clear tok1; refine wpList_append_toks rfl (.tmp 32) (.tmp 33) 25 34 rfl Try.underlying25 info34 w3.heap.size _ [] xs xa xs.length xc rfl HO1.out rfl rfl X4.out XN.out hle1.out hbs.out ?rest)
    | fail)
  case rest =>
    rintro v5 w5 hO5 hg5 h5
    have H35 := Lib.hid (((Below.refl w3.heap.size w3).alloc (Nat.le_refl _) (.cells #[] 34)).trans h5)
    have HO5 : Hid (OwnT w5 w3.heap.size 34 v5 xs) := hO5
    have X5 := Lib.hid (X3.out.below H35.out); have Y5 := Lib.hid (Y3.out.below H35.out); have B5 := Lib.hid (B3.out.trans (H35.out.mono B3.out.size))
    clear hO5 hg5 h5 X4 Y4 B4 HO1 hle1
    have hle2 : Hid (xs.length + ys.length ≤ 1099511627776) := by unfold Hid; omega
    go_wp2_with (first
      | (at_builtin; go_loud (refine wpList_append_toks rfl (.tmp 34) (.tmp 35) 25 34 rfl Try.underlying25 info34 w3.heap.size _ xs ys ya ys.length yc rfl HO5.out rfl rfl Y5.out YN.out hle2.out H35.out.size ?rest2))
      | fail)
    case rest2 =>
      rintro v6 w6 hO6 hg6 h6
      obtain ⟨oa, oc, hv, _, _⟩ := hO6.form
      subst hv
      have H36 := Lib.hid (H35.out.trans h6)
      have X6 := Lib.hid (X3.out.below H36.out); have B6 := Lib.hid (B3.out.trans (H36.out.mono B3.out.size)); have T6 := Lib.hid hO6.toks
      clear hO6 hg6 h6 X5 Y5 B5 HO5 X3 Y3 B3 H35 hbs hle2
      obtain ⟨TB, EB⟩ := tells_both FX.out.tells FY.out.tells FX.out.ends FY.out.ends
      have HTB := Lib.hid TB; have HEB := Lib.hid EB
      have hlen : Hid ((us ++ vs).length = n + m) := by unfold Hid; rw [List.length_append, HU.out, HV.out]
      have hE := exp_any oa (xs.length + ys.length) oc (n + m) (xs ++ ys) (by rw [List.length_append]) (by omega) (by omega) (tells_le TB) w6 T6.out
      have hall : expT (n + m) [] (xs ++ ys) = (us ++ vs, 0) := by
        have := exp_tells (lim := n + m) TB (Nat.zero_le _) (by rw [EB, hlen.out]; omega)
        rw [EB, List.take_length, List.take_zero] at this
        exact this
      have HALL := Lib.hid hall
      have HE := Lib.hid hE
      clear hE hall TB EB
      go_wp2_with fail
      refine HE.out.mono ?_
      rintro e w7 ⟨⟨za, zc, he, hzc, hzn, hz⟩, h7⟩
      rw [HALL.out, hlen.out] at he
      rw [HALL.out] at hz
      subst he
      have X7 := Lib.hid (X6.out.below h7); have B7 := Lib.hid (B6.out.trans (h7.mono B6.out.size)); have Z7 := Lib.hid hz
      clear h7 hz hzc HE HALL X6 B6 T6
      have U7 := Lib.hid (HB.out.below B7.out)
      go_wp2_with fail
      refine (copy_any a n cap us w7 HU.out (by omega) HN.out U7.out).mono ?_
      rintro e w8 ⟨v8, rfl, hO8, h8⟩
      have X8 := Lib.hid (X7.out.below h8); have B8 := Lib.hid (B7.out.trans (h8.mono B7.out.size)); have Z8 := Lib.hid (Z7.out.below h8); have HO8 := Lib.hid hO8; have H78 := Lib.hid h8
      have X7' := X7
      clear hO8 h8 X7 U7
      have V8 := Lib.hid (HC.out.below B8.out)
      have hle3 : Hid (us.length + vs.length ≤ 140737488355328) := by unfold Hid; rw [HU.out, HV.out]; omega
      go_wp2_with (first
        | (at_builtin; go_loud (refine wpList_append_bytes_if rfl (.tmp 52) (.tmp 53) 22 5 rfl Try.underlying22 info5 w7.heap.size _ us vs c m cap2 rfl HO8.out rfl HV.out V8.out (fun h => (HN2.out h).2) hle3.out H78.out.size ?rest3))
        | fail)
      case rest3 =>
        rintro v9 w9 hO9 hg9 h9
        obtain ⟨ba, bc, hv, _, _⟩ := OwnB.form3 hO9
        rw [hlen.out] at hv
        subst hv
        have H79 := Lib.hid (H78.out.trans h9)
        have X9 := Lib.hid (X7'.out.below H79.out); have B9 := Lib.hid (B7.out.trans (H79.out.mono B7.out.size)); have Z9 := Lib.hid (Z7.out.below H79.out)
        have W9 := Lib.hid (hO9.bytes' hlen.out)
        clear hO9 hg9 h9 X8 B8 Z8 HO8 H78 H79 hle3 Z7 B7 X7' V8
        go_wp2_with fail
        refine (same_any za ba (n + m) (n + m) zc bc (us ++ vs) (us ++ vs) w9 hlen.out hlen.out (by omega) (by omega) Z9.out W9.out).mono ?_
        rw [decide_eq_true rfl]
        rintro e wA ⟨rfl, hA⟩
        have XA := Lib.hid (X9.out.below hA); have BA := Lib.hid (B9.out.trans (hA.mono B9.out.size))
        clear hA X9 B9 Z9 W9
        go_wp2_with fail
        go_loopw [12, 13] (fun q i wr => ∃ (k : Nat), k ≤ xs.length ∧ i = .int .i64 k ∧ q = .int .i64 (ends 0 (xs.take k) : Nat) ∧ Hid (Toks wr xa xs) ∧ Hid (Below w.heap.size w wr)) (fun _ i _ => xs.length - (intOf i).toNat)
        case atStart => exact ⟨0, by omega, rfl, by simp [ends], XA, BA⟩
        case round =>
          clear XA BA
          obtain ⟨k, hk, rfl, rfl, HX, HW⟩ := hrel
          by_cases hlt : k < xs.length
          · obtain ⟨t, ht⟩ : ∃ t, xs[k]? = some t := ⟨xs[k], List.getElem?_eq_getElem hlt⟩
            obtain ⟨xb, xo, rfl, hcx⟩ : ∃ b o, xa = some ⟨b, o, none⟩ ∧ ∀ j u, (flatT xs)[j]? = some u → wr.cell? ⟨b, o + j, none⟩ = some u := by
              rcases HX.out with h | ⟨b, o, ha, hc⟩
              · rw [h] at ht; simp at ht
              · exact ⟨b, o, ha, hc⟩
            obtain ⟨_, c1, _⟩ := Toks.at hcx ht
            have het := ends_take (p := 0) ht
            have hle : ends 0 (xs.take (k + 1)) ≤ n := by
              have := tells_end (tells_take FX.out.tells (k + 1)) (Nat.zero_le _)
              rw [HU.out] at this; exact this
            have htl := (tells_le FX.out.tells t (List.mem_of_getElem? ht)).1
            generalize hq0 : ends 0 (xs.take k) = q0 at het
            generalize hq1 : ends 0 (xs.take (k + 1)) = q1 at het hle
            have HQ1 := Lib.hid hq1
            have hE := exp_any (some ⟨xb, xo, none⟩) (k + 1) xc q1 (xs.take (k + 1)) (by rw [List.length_take]; omega) (by omega) (by omega) (fun t ht => tells_le FX.out.tells t (List.mem_of_mem_take ht)) wr (HX.out.take (k + 1))
            have HE := Lib.hid hE
            have hxe : Hid (expT q1 [] (xs.take (k + 1)) = (us.take q1, 0)) := tells_exp FX.out.tells (k + 1) q1 hq1
            have htk : Hid ((us.take q1).length = q1) := by unfold Hid; rw [List.length_take, HU.out]; omega
            obtain ⟨ab, ao, rfl, hab⟩ : ∃ b o, a = some ⟨b, o, none⟩ ∧ ∀ i x, us[i]? = some x → w.cell? ⟨b, o + i, none⟩ = some (.int .u8 (byt x)) := by
              rcases HB.out with h | ⟨b, o, ha, hc⟩
              · have := HU.out; rw [h] at this; simp at this; omega
              · exact ⟨b, o, ha, hc⟩
            clear hcx ht hE hq1 hab hq0
            by_cases hz : t.len = 0
            · have hq : q1 = q0 + 1 := by omega
              clear het
              subst hq
              have HE2 : Hid (Calls Try.prog 13 #[.slice (some ⟨xb, xo, none⟩) (k + 1) xc, .int .i64 ((q0 : Int) + 1)] wr fun e w' => Exp (q0 + 1) (xs.take (k + 1)) wr.heap.size e w' ∧ Below wr.heap.size wr w') := HE.out
              clear HE
              go_wp2_with fail
              refine HE2.out.mono ?_
              rintro e wB ⟨⟨pa, pc, he, hpc, hpn, hp⟩, hB⟩
              rw [hxe.out, htk.out] at he
              rw [hxe.out] at hp
              subst he
              have XB := Lib.hid (HX.out.below hB); have WB := Lib.hid (HW.out.trans (hB.mono HW.out.size)); have PB := Lib.hid hp
              have UB := Lib.hid (((HB.out.below WB.out).take (q0 + 1)))
              clear hB hp hpc HE2 HX HW
              go_wp2_with fail
              refine (same_any pa (some ⟨ab, ao, none⟩) (q0 + 1) (q0 + 1) pc cap (us.take (q0 + 1)) (us.take (q0 + 1)) wB htk.out htk.out (by omega) (by omega) PB.out UB.out).mono ?_
              rw [decide_eq_true rfl]
              rintro e wC ⟨rfl, hC⟩
              have XC := Lib.hid (XB.out.below hC); have WC := Lib.hid (WB.out.trans (hC.mono WB.out.size))
              clear hC XB WB PB UB
              go_wp2_with fail
              go_roundw
              case rel => exact ⟨k + 1, by omega, by simp, by rw [HQ1.out]; simp, XC, WC⟩
              case measure => simp [intOf]; omega
            · have hq : q1 = q0 + t.len := by omega
              have hz1 : 1 ≤ t.len := by omega
              clear het
              subst hq
              have HE2 : Hid (Calls Try.prog 13 #[.slice (some ⟨xb, xo, none⟩) (k + 1) xc, .int .i64 ((q0 : Int) + (t.len : Int))] wr fun e w' => Exp (q0 + t.len) (xs.take (k + 1)) wr.heap.size e w' ∧ Below wr.heap.size wr w') := HE.out
              clear HE
              go_wp2_with fail
              refine HE2.out.mono ?_
              rintro e wB ⟨⟨pa, pc, he, hpc, hpn, hp⟩, hB⟩
              rw [hxe.out, htk.out] at he
              rw [hxe.out] at hp
              subst he
              have XB := Lib.hid (HX.out.below hB); have WB := Lib.hid (HW.out.trans (hB.mono HW.out.size)); have PB := Lib.hid hp
              have UB := Lib.hid (((HB.out.below WB.out).take (q0 + t.len)))
              clear hB hp hpc HE2 HX HW
              go_wp2_with fail
              refine (same_any pa (some ⟨ab, ao, none⟩) (q0 + t.len) (q0 + t.len) pc cap (us.take (q0 + t.len)) (us.take (q0 + t.len)) wB htk.out htk.out (by omega) (by omega) PB.out UB.out).mono ?_
              rw [decide_eq_true rfl]
              rintro e wC ⟨rfl, hC⟩
              have XC := Lib.hid (XB.out.below hC); have WC := Lib.hid (WB.out.trans (hC.mono WB.out.size))
              clear hC XB WB PB UB
              go_wp2_with fail
              go_roundw
              case rel => exact ⟨k + 1, by omega, by simp, by rw [HQ1.out]; simp, XC, WC⟩
              case measure => simp [intOf]; omega
          · have hkx : k = xs.length := by omega
            have hend : Hid (ends 0 (xs.take k) = n) := by
              unfold Hid; rw [hkx, List.take_length, FX.out.ends, HU.out]
            generalize ends 0 (xs.take k) = q0 at hend
            have hqn : q0 = n := hend.out
            subst hqn
            clear hkx
            go_wp2_with fail
            go_ret
            exact ⟨rfl, HW.out⟩

theorem lawC (us vs : List UInt8) (a c : Option Addr) (n cap m cap2 : Nat) (lv : Int) (w : World) (hl : us.length = n) (hn : n ≤ 9223372036854775807) (hcap : n ≤ cap) (hnil : a = none → n = 0 ∧ cap = 0) (hb : Bytes w a us)
    (hm : vs.length = m) (hm1 : m ≤ 9223372036854775807) (hcap2 : m ≤ cap2) (hnil2 : c = none → m = 0 ∧ cap2 = 0) (hc : Bytes w c vs) (hlv : -9223372036854775808 ≤ lv ∧ lv ≤ 9223372036854775807) :
    Calls Try.prog 5 #[.slice a n cap, .slice c m cap2, .int .i64 lv] w fun e w' => e = .returned (.bool true) ∧ Below w.heap.size w w' := by
  by_cases h : 1000 < n ∨ 1000 < m
  · exact cuts_long a c n cap m cap2 lv w hn hm1 h
  · exact cuts_walk a c n cap m cap2 lv us vs w hl hm (by omega) (by omega) hcap hcap2 hnil hnil2 hlv hb hc
end Go.Proofs.Ytegfacepnklbjaa
