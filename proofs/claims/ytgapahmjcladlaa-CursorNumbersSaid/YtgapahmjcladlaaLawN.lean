/- Numbers, parts and places of signs are what the document says: the walk of the law. -/
import Derived.Test.YtgapahmjcladlaaAlive
import Derived.Deep.DeepCutAuto
namespace Go.Proofs.Ytgapahmjcladlaa
open Go.RowKit
set_option linter.unusedVariables false

/-- The greatest place of a sign below a place. -/
def LastTo (bs s : List UInt8) (j : Nat) (r : Int) : Prop :=
  (r = -1 ∧ ∀ i, i < j → ¬ atS bs i s) ∨ ∃ k : Nat, r = k ∧ k < j ∧ atS bs k s ∧ ∀ i, k < i → i < j → ¬ atS bs i s
theorem LastTo.no {bs s : List UInt8} {j : Nat} {r : Int} (h : LastTo bs s j r) (hn : ¬ atS bs j s) : LastTo bs s (j + 1) r := by
  rcases h with ⟨h1, h2⟩ | ⟨k, h1, h2, h3, h4⟩
  · exact .inl ⟨h1, fun i hi => by
      by_cases h : i < j
      · exact h2 i h
      · have : i = j := by omega
        rw [this]; exact hn⟩
  · exact .inr ⟨k, h1, by omega, h3, fun i hk hi => by
      by_cases h : i < j
      · exact h4 i hk h
      · have : i = j := by omega
        rw [this]; exact hn⟩
theorem LastTo.yes {bs s : List UInt8} {j : Nat} (h : atS bs j s) : LastTo bs s (j + 1) j := .inr ⟨j, rfl, by omega, h, fun i h1 h2 => by omega⟩
theorem LastTo.last {bs s : List UInt8} {j : Nat} {r : Int} (h : LastTo bs s j r) (hj : bs.length < j + 4) : LastIs bs s r := by
  rcases h with ⟨h1, h2⟩ | ⟨k, h1, h2, h3, h4⟩
  · exact .inl ⟨h1, fun i hi => by
      by_cases h : i < j
      · exact h2 i h hi
      · have := hi.1; omega⟩
  · exact .inr ⟨k, h1, h3, fun i hk hi => by
      by_cases h : i < j
      · exact h4 i hk h hi
      · have := hi.1; omega⟩

set_option maxRecDepth 100000 in
set_option maxHeartbeats 4000000 in
theorem lawN (bs : List UInt8) (a : Option Addr) (n cap : Nat) (p k : Int) (v : Nat) (w : World) (hl : bs.length = n) (hn0 : n ≤ 9223372036854775807) (hcap : n ≤ cap) (hnil : a = none → n = 0 ∧ cap = 0) (hb : Bytes w a bs) (hp : -9223372036854775808 ≤ p ∧ p ≤ 9223372036854775807) (hk : -9223372036854775808 ≤ k ∧ k ≤ 9223372036854775807) (hv : v < 4294967296) (hT : Tab w) :
    Calls Try.prog 6 #[.slice a n cap, .int .i64 p, .int .i64 k, .int .u32 v] w fun e w' => e = .returned (.bool true) ∧ Below w.heap.size w w' := by
  have HA := Lib.hid (alive_any w hT)
  have HL := Lib.hid hl; have HB := Lib.hid hb; have HN := Lib.hid hnil; have HT := Lib.hid hT
  clear hl hb hnil hT
  by_cases hlong : 3000 < n
  · go_enter Try.func6, Try.ntmps6
    go_wp2_with fail
    refine HA.out.mono ?_
    rintro e w1 ⟨rfl, hB1⟩
    go_wp2_with fail
    go_ret
    exact ⟨rfl, hB1⟩
  have hn : n ≤ 1099511627776 := by omega
  clear hn0
  go_enter Try.func6, Try.ntmps6
  go_wp2_with fail
  refine HA.out.mono ?_
  rintro e w1 ⟨rfl, hb1⟩
  have HB1 := Lib.hid hb1
  have HY1 := Lib.hid (HB.out.below hb1)
  have HT1 := Lib.hid (HT.out.below hb1)
  have C1 := Lib.hid (u16_any a n cap p bs HL.out hn hcap HN.out w1 HY1.out)
  have C2 := Lib.hid (refNumber_any a n cap p 2 (by omega) bs HL.out hn w1 HY1.out)
  have C3 := Lib.hid (u32_any a n cap p bs HL.out hn hcap HN.out w1 HY1.out)
  have C4 := Lib.hid (refNumber_any a n cap p 4 (by omega) bs HL.out hn w1 HY1.out)
  clear hb1 HB HT HA
  generalize numV bs p 2 = V2 at C1 C2
  generalize numV bs p 4 = V4 at C3 C4
  generalize decide (fits n p ((2 : Nat) : Int)) = D2 at C1 C2
  generalize decide (fits n p ((4 : Nat) : Int)) = D4 at C3 C4
  have E2 : (D2 != D2) = false := by cases D2 <;> rfl
  have E4 : (D4 != D4) = false := by cases D4 <;> rfl
  go_wp2_with fail
  refine C1.out.mono ?_
  rintro e wx ⟨rfl, hww⟩
  rw [hww]
  clear hww wx C1
  go_wp2_with fail
  refine C2.out.mono ?_
  rintro e wx ⟨rfl, hww⟩
  rw [hww]
  clear hww wx C2
  go_wp2_with fail
  refine C3.out.mono ?_
  rintro e wx ⟨rfl, hww⟩
  rw [hww]
  clear hww wx C3
  go_wp2_with fail
  refine C4.out.mono ?_
  rintro e wx ⟨rfl, hww⟩
  rw [hww]
  clear hww wx C4
  go_upto_region 9 with fail
  obtain ⟨DF, hDF⟩ : ∃ D, D = decide (fits n p k) := ⟨_, rfl⟩
  have HDF := Lib.hid hDF
  clear hDF
  go_cut [17, 18] (fun s17 s18 wx => ∃ xo xl xc, s17 = .slice xo xl xc ∧ s18 = .bool DF ∧ Hid (Below w1.heap.size w1 wx) ∧ Hid (DF = true → ∃ q r : Nat, p = q ∧ k = r ∧ q + r ≤ n ∧ xl = r ∧ Bytes wx xo ((bs.drop q).take r)) ∧ Hid (DF = false → xl = 0))
  case first =>
    by_cases hf : fits n p k
    · obtain ⟨q, rfl, hq⟩ : ∃ q : Nat, p = q ∧ q ≤ n := by unfold fits at hf; exact ⟨p.toNat, by omega, by omega⟩
      obtain ⟨r, rfl, hr⟩ : ∃ r : Nat, k = r ∧ q + r ≤ n := by unfold fits at hf; exact ⟨k.toNat, by omega, by omega⟩
      have hd : DF = true := by rw [HDF.out, decide_eq_true hf]
      subst hd
      clear hf
      go_wp2_with fail
      refine (cut_yes a n cap q r bs HL.out hn hcap HN.out hr w1 HY1.out).mono ?_
      rintro e wx ⟨⟨x, rfl, hM⟩, hbx⟩
      obtain ⟨xo, xc, hx, _, _⟩ := OwnB.form3 hM.2
      have hxb := hM.1
      subst hx
      have HXB : Hid (Bytes wx xo ((bs.drop q).take r)) := Lib.hid (hM.2.bytes' rfl)
      have HBX := Lib.hid hbx; have HXL := Lib.hid hxb
      clear hM hbx hxb
      go_wp2_with fail
      go_meet
      exact ⟨xo, _, xc, rfl, rfl, HBX, Lib.hid (fun _ => ⟨q, r, rfl, rfl, hr, by have := HXL.out; simpa using this, HXB.out⟩), Lib.hid (fun h => by cases h)⟩
    · have hd : DF = false := by rw [HDF.out, decide_eq_false hf]
      subst hd
      have HF := Lib.hid hf
      clear hf
      go_wp2_with fail
      refine (cut_no a n cap p k hn HF.out w1).mono ?_
      rintro e wx ⟨rfl, hww⟩
      rw [hww]
      clear hww wx
      go_wp2_with fail
      go_meet
      exact ⟨none, 0, 0, rfl, rfl, Lib.hid (Below.refl _ _), Lib.hid (fun h => by cases h), Lib.hid (fun _ => rfl)⟩
  case rest =>
    obtain ⟨xo, xl, xc, rfl, rfl, HBX, HXY, HXN⟩ := hcut
    go_upto_region 10 with fail
    go_cut [19] (fun s19 wx => s19 = .bool DF ∧ wx = wc)
    case first =>
      by_cases hf : fits n p k
      · have hd : DF = true := by rw [HDF.out, decide_eq_true hf]
        subst hd
        obtain ⟨f1, f2, f3, f4⟩ := hf
        go_wp2_with fail
        go_meet
        exact ⟨rfl, rfl⟩
      · have hd : DF = false := by rw [HDF.out, decide_eq_false hf]
        subst hd
        by_cases f1 : 0 ≤ p
        · by_cases f2 : p ≤ n
          · by_cases f3 : 0 ≤ k
            · have f4 : ¬ k ≤ (n : Int) - p := fun h => hf ⟨f1, f2, f3, h⟩
              clear hf
              go_wp2_with fail
              go_meet
              exact ⟨rfl, rfl⟩
            · clear hf
              go_wp2_with fail
              go_meet
              exact ⟨rfl, rfl⟩
          · clear hf
            go_wp2_with fail
            go_meet
            exact ⟨rfl, rfl⟩
        · clear hf
          go_wp2_with fail
          go_meet
          exact ⟨rfl, rfl⟩
    case rest =>
      obtain ⟨rfl, rfl⟩ := hcut
      go_upto_region 11 with fail
      go_cut [125] (fun s125 wx => s125 = .bool false ∧ Hid (Below w1.heap.size w1 wx))
      case first =>
        cases DF with
        | false =>
          have hx0 := HXN.out rfl
          subst hx0
          go_wp2_with fail
          go_meet
          exact ⟨rfl, HBX⟩
        | true =>
          obtain ⟨q, r, rfl, rfl, hqr, rfl, hxb⟩ := HXY.out rfl
          have HXB := Lib.hid hxb
          have HLT : Hid (((bs.drop q).take xl).length = xl) := by unfold Hid; rw [List.length_take, List.length_drop, HL.out]; omega
          have HYC := Lib.hid (HY1.out.below HBX.out)
          clear hxb HXY HXN
          have g2 : (0 : Int) ≤ (q : Int) := by omega
          cases a with
          | none =>
            obtain ⟨e1, e2⟩ := HN.out rfl
            subst e1; subst e2
            have hp0 : q = 0 := by omega
            have hk0 : xl = 0 := by omega
            subst hp0; subst hk0
            go_wp2_with fail
            refine (same_any xo none 0 0 xc 0 ((bs.drop 0).take 0) ((bs.drop 0).take 0) wc HLT.out HLT.out (by omega) (by omega) HXB.out (.inl (by simp))).mono ?_
            rw [decide_eq_true rfl]
            rintro e wy ⟨rfl, hy⟩
            go_wp2_with fail
            go_meet
            exact ⟨rfl, Lib.hid (HBX.out.trans (hy.mono HBX.out.size))⟩
          | some ad =>
            rcases HYC.out with hnb | ⟨b, o, had, hc⟩
            · have hn0 : n = 0 := by have := HL.out; rw [hnb] at this; simpa using this.symm
              have hp0 : q = 0 := by omega
              have hk0 : xl = 0 := by omega
              subst hn0; subst hp0; subst hk0
              go_wp2_with fail
              all_goals
                refine (same_any xo _ 0 0 xc _ ((bs.drop 0).take 0) ((bs.drop 0).take 0) wc HLT.out HLT.out (by omega) (by omega) HXB.out (.inl (by simp))).mono ?_
                rw [decide_eq_true rfl]
                rintro e wy ⟨rfl, hy⟩
                go_wp2_with fail
                go_meet
                exact ⟨rfl, Lib.hid (HBX.out.trans (hy.mono HBX.out.size))⟩
            · cases had
              have HC := Lib.hid hc
              clear hc
              by_cases hcp : cap = q
              · have hk0 : xl = 0 := by omega
                have hpn : q = n := by omega
                subst hk0; subst hcp; subst hpn
                go_wp2_with fail
                refine (same_any xo _ 0 0 xc _ _ _ wc HLT.out HLT.out (by omega) (by omega) HXB.out (.inl (by simp))).mono ?_
                rw [decide_eq_true rfl]
                rintro e wy ⟨rfl, hy⟩
                go_wp2_with fail
                go_meet
                exact ⟨rfl, Lib.hid (HBX.out.trans (hy.mono HBX.out.size))⟩
              · have hcp2 : ¬ cap - q = 0 := by omega
                go_wp2_with fail
                refine (same_any xo (some ⟨b, o + q, none⟩) xl xl xc (cap - q) ((bs.drop q).take xl) ((bs.drop q).take xl) wc HLT.out HLT.out (by omega) (by omega) HXB.out ((Bytes.drop HC.out q).take xl)).mono ?_
                rw [decide_eq_true rfl]
                rintro e wy ⟨rfl, hy⟩
                go_wp2_with fail
                go_meet
                exact ⟨rfl, Lib.hid (HBX.out.trans (hy.mono HBX.out.size))⟩
      case rest =>
        obtain ⟨rfl, HBX⟩ := hcut
        go_wp2_with fail
        obtain ⟨w5, hw5⟩ : ∃ x, x = wc := ⟨_, rfl⟩
        have HY5 : Hid (Bytes w5 a bs) := by rw [hw5]; exact Lib.hid (HY1.out.below HBX.out)
        have HT5 : Hid (Tab w5) := by rw [hw5]; exact Lib.hid (HT1.out.below HBX.out)
        have HB5 : Hid (Below w.heap.size w w5) := by rw [hw5]; exact Lib.hid (HB1.out.trans (HBX.out.mono HB1.out.size))
        rw [← hw5]
        clear hw5 HBX HXY HXN HDF HY1 HT1 HB1 E2 E4
        go_loopw [20, 21] (fun l i wr => ∃ (j : Nat) (r : Int), j ≤ n + 1 ∧ l = .int .i64 r ∧ i = .int .i64 j ∧ Hid (LastTo bs (leB v 4) j r) ∧ wr = w5) (fun _ i _ => n + 1 - (intOf i).toNat)
        case atStart => exact ⟨0, -1, by omega, rfl, rfl, Lib.hid (.inl ⟨rfl, fun i h => by omega⟩), rfl⟩
        case round =>
          obtain ⟨j, r, hj, rfl, rfl, HLT, rfl⟩ := hrel
          by_cases hlt : j + 4 ≤ n
          · have i1 : (j : Int) ≤ (n : Int) - 4 := by omega
            have HNN := Lib.hid (at_num (bs := bs) (p := j) hv (by rw [HL.out]; exact hlt))
            have HLTV := Lib.hid (numV_lt bs j 4)
            have HFT : Hid (decide (fits n (j : Int) (4 : Nat)) = true) := decide_eq_true ⟨by omega, by omega, by omega, by omega⟩
            have HC := Lib.hid (refNumber_any a n cap j 4 (by omega) bs HL.out (by omega) wr HY5.out)
            generalize numV bs (j : Int) 4 = V at HNN HLTV HC
            rw [HFT.out] at HC
            have hV : V < 4294967296 := HLTV.out
            go_wp2_with fail
            refine HC.out.mono ?_
            rintro e wy ⟨rfl, hww⟩
            rw [hww]
            clear hww wy HC
            have hw : IntKind.u32.wrap (V : Int) = (V : Int) := by
              have e4 : IntKind.u32.signed = false := rfl
              simp only [IntKind.wrap, IntKind.bits, e4]; simp; omega
            by_cases he : V = v
            · have hat := HNN.out.1 he
              have hee : ((V : Int) == (v : Int)) = true := by rw [he]; simp
              have HLN : Hid (LastTo bs (leB v 4) (j + 1) j) := Lib.hid (LastTo.yes hat)
              clear hat he
              go_wp2_with fail
              go_roundw
              case rel => exact ⟨j + 1, j, by omega, rfl, by simp, HLN, trivial⟩
              case measure => simp [intOf]; omega
            · have HLN : Hid (LastTo bs (leB v 4) (j + 1) r) := Lib.hid (HLT.out.no (fun h => he (HNN.out.2 h)))
              have hee : ((V : Int) == (v : Int)) = false := by rw [beq_eq_false_iff_ne]; omega
              clear he
              go_wp2_with fail
              go_roundw
              case rel => exact ⟨j + 1, r, by omega, rfl, by simp, HLN, trivial⟩
              case measure => simp [intOf]; omega
          · have i1 : ¬ (j : Int) ≤ (n : Int) - 4 := by omega
            have HLS := Lib.hid (HLT.out.last (by rw [HL.out]; omega))
            clear HLT
            go_wp2_with fail
            refine (first_any a n cap v p bs HL.out (by omega) hcap HN.out hv wr HY5.out HT5.out).mono ?_
            rintro e w6 ⟨⟨r1, rfl, hr1⟩, h6⟩
            have HR1 := Lib.hid hr1; have HY6 := Lib.hid (HY5.out.below h6); have HB6 := Lib.hid (below_step HB5.out h6)
            clear hr1 h6 HY5 HB5 HT5
            go_wp2_with fail
            refine (refFirst_any a n cap v p bs HL.out (by omega) (by omega) hv w6 HY6.out).mono ?_
            rintro e wy ⟨⟨r2, rfl, hr2⟩, hww⟩
            rw [hww]
            have h12 := FirstIs.eq hr2 HR1.out
            subst h12
            clear hww wy hr2 HR1
            go_wp2_with fail
            refine (last_any a n cap v bs HL.out (by omega) hcap hv w6 HY6.out).mono ?_
            rintro e w7 ⟨⟨r3, rfl, hr3⟩, h7⟩
            have h13 := LastIs.eq hr3 HLS.out
            subst h13
            have HB7 := Lib.hid (below_step HB6.out h7)
            clear hr3 h7 HB6 HY6 HLS
            go_wp2_with fail
            go_ret
            exact ⟨rfl, HB7.out⟩
end Go.Proofs.Ytgapahmjcladlaa
