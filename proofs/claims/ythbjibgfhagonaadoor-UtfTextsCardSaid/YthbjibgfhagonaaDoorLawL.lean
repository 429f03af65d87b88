/- The walk of UtfLines: it returns true for all bytes. -/
import Derived.Test.YthbjibgfhagonaaDoorLn
import Derived.Test.YthbjibgfhagonaaDoorAlive
namespace Go.Proofs.YthbjibgfhagonaaDoor
open Go.RowKit
set_option linter.unusedVariables false

def prevB (bs : List UInt8) (k : Nat) : UInt8 := if k = 0 then 0 else bs[k - 1]?.getD 0
theorem drop_cons {bs : List UInt8} {k : Nat} {c : UInt8} (h : bs[k]? = some c) : bs.drop k = c :: bs.drop (k + 1) := by
  have hk : k < bs.length := by
    rcases Nat.lt_or_ge k bs.length with h1 | h1
    · exact h1
    · rw [List.getElem?_eq_none h1] at h; simp at h
  have : bs[k] = c := by rw [List.getElem?_eq_getElem hk] at h; exact Option.some.inj h
  rw [← this, List.getElem_cons_drop]
theorem ends_cons (p b : UInt8) (t : List UInt8) : ends p (b :: t) = (if (b = 10 ∧ p ≠ 13) ∨ b = 13 then 1 else 0) + ends b t := rfl
theorem byt_eq {c : UInt8} {n : Nat} (d : UInt8) (hd : d.toNat = n) : (byt c == (n : Int)) = decide (c = d) := by
  subst hd
  by_cases h : c = d
  · rw [decide_eq_true h, h, beq_iff_eq]; rfl
  · rw [decide_eq_false h, beq_eq_false_iff_ne]
    exact fun e => h (byt_inj e)

theorem lines_long (a : Option Addr) (n cap : Nat) (w : World) (hn : 3000 < n) (hn2 : n ≤ 9223372036854775807) (hT : Tabs w) (hT2 : Tab2 w) :
    Calls Tryd.prog 7 #[.slice a n cap] w fun e w' => e = .returned (.bool true) ∧ Below w.heap.size w w' := by
  have HA := Lib.hid (alive_any w hT hT2)
  clear hT hT2
  go_enter Tryd.func7, Tryd.ntmps7
  go_wp2_with (go_at_call 8; refine HA.out.mono ?_; rintro e w1 ⟨rfl, hb1⟩)
  go_ret
  exact ⟨rfl, hb1⟩

set_option maxHeartbeats 2000000 in
set_option maxRecDepth 100000 in
theorem lines_walk (a : Option Addr) (n cap : Nat) (bs : List UInt8) (w : World) (hl : bs.length = n) (hn : n ≤ 3000) (hcap : n ≤ cap) (hnil : a = none → n = 0 ∧ cap = 0) (hb : Bytes w a bs) (hT : Tabs w) (hT2 : Tab2 w) :
    Calls Tryd.prog 7 #[.slice a n cap] w fun e w' => e = .returned (.bool true) ∧ Below w.heap.size w w' := by
  have HA := Lib.hid (alive_any w hT hT2)
  have HL := Lib.hid hl; have HB := Lib.hid hb; have HT2 := Lib.hid hT2; have HNIL := Lib.hid hnil
  clear hl hb hT hT2 hnil
  go_enter Tryd.func7, Tryd.ntmps7
  have tok1 : True := trivial
  go_wp2_with (first
    | (go_at_call 8; refine HA.out.mono ?_; rintro e w1 ⟨rfl, hb1⟩)
    | (go_at_call 28; clear tok1; refine (lines_any a n cap bs _ HL.out (by omega) hcap HNIL.out (HB.out.below hb1) (HT2.out.below hb1)).mono ?_; rintro e w2 ⟨v, rfl, ⟨al, nl, cl, rfl, hll, hcl, hnl, hby⟩, hb2⟩))
  have HLL := Lib.hid hll; have HNL := Lib.hid hnl; have HBY := Lib.hid hby
  have HBW := Lib.hid (hb1.trans (hb2.mono hb1.size))
  have hle : nl ≤ n := by
    have h1 := repAll_le (old := [13, 10]) (c := 10) (s := bs) (by simp)
    have h2 := repAll_le (old := [13]) (c := 10) (s := repAll [13, 10] 10 bs) (by simp)
    have h3 : (linesB bs).length ≤ bs.length := Nat.le_trans h2 h1
    rw [hll, HL.out] at h3; exact h3
  obtain ⟨T, hTT⟩ : ∃ T, T = (linesB bs).count 10 := ⟨_, rfl⟩
  have hTn : T ≤ 3000 := by
    have := List.count_le_length (a := (10 : UInt8)) (l := linesB bs)
    rw [hTT]; omega
  have S0 : Hid (ends (prevB bs 0) (bs.drop 0) + 0 = T) := by
    unfold Hid
    rw [hTT, ← ends_lines]; rfl
  have HTT := Lib.hid hTT
  obtain ⟨W2, rfl⟩ : ∃ x, x = w2 := ⟨_, rfl⟩
  clear hll hnl hby hb1 hb2 hTT HA
  go_loopw [4, 5] (fun ev iv wr => ∃ k e : Nat, ev = .int .i64 e ∧ iv = .int .i64 k ∧ k ≤ n ∧ e ≤ T ∧ Hid (ends (prevB bs k) (bs.drop k) + e = T) ∧ Below W2.heap.size W2 wr) (fun _ iv _ => n - (intOf iv).toNat)
  case atStart => exact ⟨0, 0, rfl, rfl, by omega, by omega, S0, Below.refl _ _⟩
  case round =>
    clear S0
    obtain ⟨k, e, rfl, rfl, hk, he, HE, hbw⟩ := hrel
    by_cases hlt : k < n
    · obtain ⟨c, hc⟩ := at_some (us := bs) (k := k) (by rw [HL.out]; exact hlt)
      have HBB := Lib.hid ((HB.out.below HBW.out).below hbw)
      rcases HBB.out with h0 | ⟨b, o, rfl, hbc⟩
      · rw [h0] at hc; simp at hc
      have hcell : wr.cell? ⟨b, o + k, none⟩ = some (.int .u8 (byt c)) := hbc k c hc
      have hE := HE.out
      rw [drop_cons hc, ends_cons] at hE
      have hprev : prevB bs (k + 1) = c := by unfold prevB; rw [if_neg (by omega), Nat.add_sub_cancel, hc]; rfl
      rw [← hprev] at hE
      have g10 := byt_eq (c := c) (n := 10) 10 rfl
      have g13 := byt_eq (c := c) (n := 13) 13 rfl
      have HBC := Lib.hid hbc; have HPV := Lib.hid hprev
      clear hc HE hbc
      by_cases c13 : c = 13
      · have e10 : (byt c == 10) = false := by rw [c13]; rfl
        have e13 : (byt c == 13) = true := by rw [c13]; rfl
        rw [hprev, if_pos (.inr c13), ← hprev] at hE
        have HE2 : Hid (ends (prevB bs (k + 1)) (bs.drop (k + 1)) + (e + 1) = T) := by unfold Hid; omega
        have he2 : e + 1 ≤ T := by omega
        clear hE g10 g13 c13 hprev
        go_wp2
        go_roundw
        case rel => exact ⟨k + 1, e + 1, by simp, by simp, by omega, he2, HE2, hbw⟩
        case measure => simp [intOf]; omega
      have e13 : (byt c == 13) = false := by rw [show (13 : Int) = ((13 : Nat) : Int) from rfl, g13, decide_eq_false c13]
      by_cases c10 : c = 10
      · have e10 : (byt c == 10) = true := by rw [c10]; rfl
        by_cases hk0 : k = 0
        · have ek : ((k : Int) == 0) = true := by rw [beq_iff_eq]; omega
          rw [hprev, if_pos (.inl ⟨c10, by rw [hk0]; show (0 : UInt8) ≠ 13; decide⟩), ← hprev] at hE
          have HE2 : Hid (ends (prevB bs (k + 1)) (bs.drop (k + 1)) + (e + 1) = T) := by unfold Hid; omega
          have he2 : e + 1 ≤ T := by omega
          clear hE g10 g13 c13 c10 hprev hk0
          go_wp2
          go_roundw
          case rel => exact ⟨k + 1, e + 1, by simp, by simp, by omega, he2, HE2, hbw⟩
          case measure => simp [intOf]; omega
        · have ek : ((k : Int) == 0) = false := by rw [beq_eq_false_iff_ne]; omega
          obtain ⟨m, hm⟩ : ∃ m, k = m + 1 := ⟨k - 1, by omega⟩
          have eK : (k : Int) - 1 = (m : Int) := by omega
          have hmn : m < n := by omega
          obtain ⟨p, hp⟩ := at_some (us := bs) (k := m) (by rw [HL.out]; exact hmn)
          have hcm : wr.cell? ⟨b, o + m, none⟩ = some (.int .u8 (byt p)) := HBC.out m p hp
          have hpv : prevB bs k = p := by unfold prevB; rw [if_neg hk0, hm, Nat.add_sub_cancel, hp]; rfl
          rw [hpv] at hE
          have i1 : (0 : Int) ≤ (m : Int) := by omega
          have i2 : (m : Int) < (n : Int) := by omega
          by_cases p13 : p = 13
          · have ep : (byt p != 13) = false := by rw [p13]; rfl
            rw [if_neg (by rw [hprev, p13]; simp [c13]), Nat.zero_add] at hE
            have HE2 := Lib.hid hE
            clear hE g10 g13 c13 c10 hprev hk0 hm hp hpv p13
            go_wp2
            go_roundw
            case rel => exact ⟨k + 1, e, rfl, by simp, by omega, he, HE2, hbw⟩
            case measure => simp [intOf]; omega
          · have ep : (byt p != 13) = true := by
              rw [bne_iff_ne]; intro e; exact p13 (byt_inj (b := 13) e)
            rw [hprev, if_pos (.inl ⟨c10, p13⟩), ← hprev] at hE
            have HE2 : Hid (ends (prevB bs (k + 1)) (bs.drop (k + 1)) + (e + 1) = T) := by unfold Hid; omega
            have he2 : e + 1 ≤ T := by omega
            clear hE g10 g13 c13 c10 hprev hk0 hm hp hpv p13
            go_wp2
            go_roundw
            case rel => exact ⟨k + 1, e + 1, by simp, by simp, by omega, he2, HE2, hbw⟩
            case measure => simp [intOf]; omega
      · have e10 : (byt c == 10) = false := by rw [show (10 : Int) = ((10 : Nat) : Int) from rfl, g10, decide_eq_false c10]
        rw [if_neg (by rw [hprev]; simp [c13, c10]), Nat.zero_add] at hE
        have HE2 := Lib.hid hE
        clear hE g10 g13 c13 c10 hprev
        go_wp2
        go_roundw
        case rel => exact ⟨k + 1, e, rfl, by simp, by omega, he, HE2, hbw⟩
        case measure => simp [intOf]; omega
    · have heT : e = T := by
        have := HE.out
        rw [List.drop_of_length_le (by rw [HL.out]; omega)] at this
        simpa [ends] using this
      have S1 : Hid (((linesB bs).drop 0).count 10 = e) := by unfold Hid; rw [heT, HTT.out]; rfl
      obtain ⟨W3, rfl⟩ : ∃ x, x = wr := ⟨_, rfl⟩
      have hen : e ≤ 3000 := by omega
      have HBY3 := Lib.hid (HBY.out.below hbw)
      have HBW3 := Lib.hid (HBW.out.trans (hbw.mono HBW.out.size))
      clear heT HE he hbw HTT
      go_wp2
      go_loopw [4, 6] (fun ev iv wr => ∃ i e : Nat, ev = .int .i64 e ∧ iv = .int .i64 i ∧ i ≤ nl ∧ e ≤ 3000 ∧ Hid (((linesB bs).drop i).count 10 = e) ∧ Below W3.heap.size W3 wr) (fun _ iv _ => nl - (intOf iv).toNat)
      case atStart => exact ⟨0, e, rfl, rfl, by omega, hen, S1, Below.refl _ _⟩
      case round =>
        clear S1 hen
        obtain ⟨i, e, rfl, rfl, hi, he, HE, hbw⟩ := hrel
        by_cases hlt2 : i < nl
        · obtain ⟨c, hc⟩ := at_some (us := linesB bs) (k := i) (by rw [HLL.out]; exact hlt2)
          rcases (HBY3.out.below hbw) with h0 | ⟨b, o, rfl, hbc⟩
          · rw [h0] at hc; simp at hc
          have hcell : wr.cell? ⟨b, o + i, none⟩ = some (.int .u8 (byt c)) := hbc i c hc
          have hE := HE.out
          rw [drop_cons hc, List.count_cons] at hE
          have c13 : c ≠ 13 := fun h => lines_no13 bs (by rw [← h]; exact List.mem_of_getElem? hc)
          have e13 : (byt c == 13) = false := by rw [show (13 : Int) = ((13 : Nat) : Int) from rfl, byt_eq (c := c) (n := 13) 13 rfl, decide_eq_false c13]
          clear hc HE hbc c13
          by_cases c10 : c = 10
          · have e10 : (byt c == 10) = true := by rw [c10]; rfl
            rw [if_pos (by rw [c10]; rfl)] at hE
            obtain ⟨e', he'⟩ : ∃ e', e = e' + 1 := ⟨e - 1, by omega⟩
            have eE : (e : Int) - 1 = (e' : Int) := by omega
            have HE2 : Hid (((linesB bs).drop (i + 1)).count 10 = e') := by unfold Hid; omega
            have he2 : e' ≤ 3000 := by omega
            clear hE he' c10
            go_wp2
            go_roundw
            case rel => exact ⟨i + 1, e', rfl, by simp, by omega, he2, HE2, hbw⟩
            case measure => simp [intOf]; omega
          · have e10 : (byt c == 10) = false := by rw [show (10 : Int) = ((10 : Nat) : Int) from rfl, byt_eq (c := c) (n := 10) 10 rfl, decide_eq_false c10]
            rw [if_neg (by simpa using c10), Nat.add_zero] at hE
            have HE2 := Lib.hid hE
            clear hE c10
            go_wp2
            go_roundw
            case rel => exact ⟨i + 1, e, rfl, by simp, by omega, he, HE2, hbw⟩
            case measure => simp [intOf]; omega
        · have he0 : e = 0 := by
            have := HE.out
            rw [List.drop_of_length_le (by rw [HLL.out]; omega)] at this
            simpa using this.symm
          have hbW := HBW3.out.trans (hbw.mono HBW3.out.size)
          have HBY4 := Lib.hid (HBY3.out.below hbw)
          have hK := lines_any al nl cl (linesB bs) wr HLL.out (by omega) hcl HNL.out HBY4.out (HT2.out.below hbW)
          rw [lines_twice] at hK
          have HK := Lib.hid hK; have HW := Lib.hid hbW
          clear hK HE hbw
          subst he0
          have tok2 : True := trivial
          go_wp2_with (first
            | (go_at_call 28; clear tok2; refine HK.out.mono ?_; rintro e w5 ⟨v, rfl, ⟨a5, n5, c5, rfl, hl5, hc5, hn5, hby5⟩, hb5⟩)
            | (go_at_call 16; refine (same_any a5 al n5 nl c5 cl (linesB bs) (linesB bs) _ hl5 HLL.out (by rw [← hl5, HLL.out]; omega) (by omega) hby5 (HBY4.out.below hb5)).mono ?_; rw [decide_eq_true rfl]; rintro e w6 ⟨rfl, hb6⟩))
          go_ret
          have h6 := HW.out.trans (hb5.mono HW.out.size)
          exact ⟨rfl, h6.trans (hb6.mono h6.size)⟩

theorem lawL (bs : List UInt8) (a : Option Addr) (n cap : Nat) (w : World) (hl : bs.length = n) (hn : n ≤ 9223372036854775807) (hcap : n ≤ cap) (hnil : a = none → n = 0 ∧ cap = 0) (hb : Bytes w a bs) (hT : Tabs w) (hT2 : Tab2 w) :
    Calls Tryd.prog 7 #[.slice a n cap] w fun e w' => e = .returned (.bool true) ∧ Below w.heap.size w w' := by
  by_cases h : 3000 < n
  · exact lines_long a n cap w h hn hT hT2
  · exact lines_walk a n cap bs w hl (by omega) hcap hnil hb hT hT2
end Go.Proofs.YthbjibgfhagonaaDoor
