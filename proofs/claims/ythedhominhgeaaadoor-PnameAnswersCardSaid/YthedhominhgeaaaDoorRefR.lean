/- A part's name, by the document's answer: what the call computes. -/
import Derived.Test.YthedhominhgeaaaDoorRefS
namespace Go.Proofs.YthedhominhgeaaaDoor
open Go.RowKit
set_option linter.unusedVariables false
attribute [local go_sem] nat_byt str_size str_get str_from str_to str_list lit_list wrap_byt

theorem toldI_some {t : List UInt8} {v : UInt8} (h : toldV t = some v) : toldI t = byt v := by unfold toldI; rw [h]
theorem toldI_none {t : List UInt8} (h : toldV t = none) : toldI t = -1 := by unfold toldI; rw [h]
theorem fine_not (v : UInt8) : (plain v = true → fine v = false) ∧ (byt v = 47 → fine v = false) ∧ (byt v = 92 → fine v = false) ∧ (byt v = 0 → fine v = false) ∧ (plain v = false → ¬ byt v = 47 → ¬ byt v = 92 → ¬ byt v = 0 → fine v = true) :=
  all_bytes (p := fun v => (plain v = true → fine v = false) ∧ (byt v = 47 → fine v = false) ∧ (byt v = 92 → fine v = false) ∧ (byt v = 0 → fine v = false) ∧ (plain v = false → ¬ byt v = 47 → ¬ byt v = 92 → ¬ byt v = 0 → fine v = true)) (by decide +kernel) v
theorem drop_cons {l t : List UInt8} {k : Nat} {d : UInt8} (h : l.drop k = d :: t) : l[k]? = some d ∧ l.drop (k + 1) = t ∧ k < l.length := by
  have hk : k < l.length := by
    rcases Nat.lt_or_ge k l.length with h2 | h2
    · exact h2
    · rw [List.drop_eq_nil_of_le h2] at h; cases h
  rw [List.drop_eq_getElem_cons hk] at h
  injection h with h1 h2
  exact ⟨by rw [List.getElem?_eq_getElem hk, h1], h2, hk⟩

theorem last_ok (p : UInt8) : (!(decide (p = 47) || decide (p = 46))) = (byt p != 47 && byt p != 46) :=
  all_bytes (p := fun p => (!(decide (p = 47) || decide (p = 46))) = (byt p != 47 && byt p != 46)) (by decide +kernel) p
set_option maxHeartbeats 4000000 in
theorem refRight_in (l : List UInt8) (w : World) (res : Bool) (h1 : 2 ≤ l.length) (h2 : l.length ≤ 255) (h47 : l[0]? = some 47) (HR0 : Hid (scanT 47 (toks (l.drop 1)) = res)) :
    Calls Tryd.prog 15 #[.string (str l)] w fun e w' => e = .returned (.bool res) ∧ w' = w := by
  have HP := Lib.hid (fun c w => refPlain_any c w)
  have HS := Lib.hid (fun c w => refSign_any c w)
  have e0 : ∀ h : 0 < l.length, l[0]'h = 47 := fun h => by rw [List.getElem?_eq_getElem h] at h47; exact Option.some.inj h47
  have H0 := Lib.hid h47
  clear h47
  have i1 : ¬ (l.length : Int) < 2 := by omega
  have i2 : ¬ (255 : Int) < (l.length : Int) := by omega
  have i3 : (0 : Int) < (l.length : Int) := by omega
  have b47 : byt 47 = 47 := rfl
  go_enter Tryd.func15, Tryd.ntmps15
  go_wp2_with fail
  go_loop [3] (fun s3 => ∃ (k : Nat) (p : UInt8), k + 1 ≤ l.length ∧ s3 = .int .i64 ((k : Int) + 1) ∧ Hid (l[k]? = some p) ∧ Hid (scanT p (toks (l.drop (k + 1))) = res)) (fun i => l.length - (intOf i).toNat)
  case atStart => exact ⟨0, 47, by omega, rfl, H0, HR0⟩
  case round =>
    clear H0 HR0 e0 i3
    obtain ⟨k, p, hk, rfl, HPV, HR⟩ := hrel
    have ep : ∀ h : k < l.length, l[k]'h = p := fun h => by have := HPV.out; rw [List.getElem?_eq_getElem h] at this; exact Option.some.inj this
    by_cases hlt : k + 1 < l.length
    · obtain ⟨d, hd⟩ : ∃ d, l[k + 1]? = some d := ⟨l[k + 1], List.getElem?_eq_getElem (by omega)⟩
      have e0 : ∀ h : k + 1 < l.length, l[k + 1]'h = d := fun h => by rw [List.getElem?_eq_getElem h] at hd; exact Option.some.inj hd
      have e3 : ∀ h : ((k : Int) + 1).toNat < l.length, l[((k : Int) + 1).toNat]'h = d := fun h => by simp only [show ((k : Int) + 1).toNat = k + 1 by omega]; exact e0 _
      have hdr : l.drop (k + 1) = d :: l.drop (k + 1 + 1) := by rw [← e0 (by omega)]; exact List.drop_eq_getElem_cons (by omega)
      have i4 : (k : Int) + 1 < (l.length : Int) := by omega
      have i5 : (0 : Int) ≤ (k : Int) + 1 := by omega
      have i6 : (k : Int) < (l.length : Int) := by omega
      have i7 : (k : Int) + 1 - 1 = (k : Int) := by omega
      have HD := Lib.hid hd
      clear hd
      by_cases hc : byt d = 47
      · have hc2 : d = 47 := byt_inj hc
        have h5 : (byt d == 47) = true := by rw [beq_iff_eq]; exact hc
        rw [hdr, toks_raw (told_other _ (by rw [hc2]; decide))] at HR
        have HR2 : Hid ((!(decide (p = 47) || decide (p = 46)) && scanT 47 (toks (l.drop (k + 1 + 1)))) = res) := by
          have := HR.out
          simp only [scanT, if_pos hc2] at this
          exact Lib.hid this
        clear hdr HR
        by_cases hp1 : byt p = 47
        · have h6 : (byt p == 47) = true := by rw [beq_iff_eq]; exact hp1
          have hr : res = false := by rw [← HR2.out, decide_eq_true (byt_inj hp1)]; rfl
          subst hr
          clear HR2 hc hp1 HD hc2
          go_wp2_with fail
          go_ret
          exact ⟨rfl, rfl⟩
        · have h6 : (byt p == 47) = false := by rw [beq_eq_false_iff_ne]; exact hp1
          by_cases hp2 : byt p = 46
          · have h7 : (byt p == 46) = true := by rw [beq_iff_eq]; exact hp2
            have hr : res = false := by rw [← HR2.out, decide_eq_true (byt_inj hp2 : p = 46)]; simp
            subst hr
            clear HR2 hc hp1 hp2 HD hc2
            go_wp2_with fail
            go_ret
            exact ⟨rfl, rfl⟩
          · have h7 : (byt p == 46) = false := by rw [beq_eq_false_iff_ne]; exact hp2
            have HR3 : Hid (scanT d (toks (l.drop (k + 1 + 1))) = res) := by
              have := HR2.out
              rw [decide_eq_false (fun h => hp1 (by rw [h]; rfl)), decide_eq_false (fun h => hp2 (by rw [h]; rfl))] at this
              rw [hc2]
              exact Lib.hid this
            clear HR2 hc hp1 hp2 hc2
            go_wp2_with fail
            go_round
            case rel => exact ⟨k + 1, d, by omega, by simp, HD, HR3⟩
            case measure => simp [intOf]; omega
      · have h5 : (byt d == 47) = false := by rw [beq_eq_false_iff_ne]; exact hc
        have HT := Lib.hid (fun w => refTold_any l (k + 1) w (by omega) (by omega))
        rw [show ((k + 1 : Nat) : Int) = (k : Int) + 1 by omega] at HT
        cases hv : toldV (d :: l.drop (k + 1 + 1)) with
        | some v =>
          obtain ⟨a, b, r, he, ha, hb, hve⟩ := told_some hv
          rw [hdr, he, toks_hex r ha hb] at HR
          have hve2 : escOf a b = v := by unfold escOf; exact hve.symm
          rw [hve2] at HR
          have hdr2 : l.drop (k + 1) = 37 :: a :: b :: r := by rw [hdr, he]
          have q1 := drop_cons hdr2
          have q2 := drop_cons q1.2.1
          have q3 := drop_cons q2.2.1
          have HB : Hid (l[k + 3]? = some b) := Lib.hid q3.1
          have hlt4 : k + 3 < l.length := q3.2.2
          have hr4 : l.drop (k + 3 + 1) = r := q3.2.1
          have fb := digit_facts b hb
          have HR2 : Hid ((fine v && scanT b (toks (l.drop (k + 3 + 1)))) = res) := by
            have := HR.out
            simp only [scanT] at this
            rw [hr4]
            rw [scanT_prev (q := b) (by constructor <;> (rintro (h | h)); exact absurd h (by decide); exact absurd h (by decide); exact absurd h fb.1; exact absurd h fb.2.1) (toks r)] at this
            exact Lib.hid this
          rw [hdr, toldI_some hv] at HT
          have FN := fine_not v
          have hv0 := byt_nonneg v; have hv1 := byt_lt v
          have hPv := Lib.hid (fun w => refPlain_any v w)
          clear hdr HR HP HS hve he hve2 q1 q2 q3 hr4 fb hdr2 hv ha hb HD hc HPV
          cases hp : plain v with
          | true =>
            rw [FN.1 hp] at HR2
            have hr : res = false := HR2.out.symm
            subst hr
            rw [hp] at hPv
            clear FN HR2 hp
            go_wp2_with fail
            refine (HT.out _).mono ?_
            rintro e w1 ⟨rfl, hww⟩
            subst hww
            go_wp2_with fail
            refine (hPv.out _).mono ?_
            rintro e w1 ⟨rfl, hww⟩
            subst hww
            go_wp2_with fail
            go_ret
            exact ⟨rfl, rfl⟩
          | false =>
            rw [hp] at hPv
            by_cases hx : byt v = 47 ∨ byt v = 92 ∨ byt v = 0
            · have hf : fine v = false := by
                rcases hx with h | h | h
                · exact FN.2.1 h
                · exact FN.2.2.1 h
                · exact FN.2.2.2.1 h
              rw [hf] at HR2
              have hr : res = false := HR2.out.symm
              subst hr
              clear FN HR2 hp hf
              by_cases hy1 : byt v = 47
              · have h8 : (byt v == 47) = true := by rw [beq_iff_eq]; exact hy1
                clear hx hy1
                go_wp2_with fail
                refine (HT.out _).mono ?_
                rintro e w1 ⟨rfl, hww⟩
                subst hww
                go_wp2_with fail
                refine (hPv.out _).mono ?_
                rintro e w1 ⟨rfl, hww⟩
                subst hww
                go_wp2_with fail
                go_ret
                exact ⟨rfl, rfl⟩
              · have h8 : (byt v == 47) = false := by rw [beq_eq_false_iff_ne]; exact hy1
                by_cases hy2 : byt v = 92
                · have h9 : (byt v == 92) = true := by rw [beq_iff_eq]; exact hy2
                  clear hx hy1 hy2
                  go_wp2_with fail
                  refine (HT.out _).mono ?_
                  rintro e w1 ⟨rfl, hww⟩
                  subst hww
                  go_wp2_with fail
                  refine (hPv.out _).mono ?_
                  rintro e w1 ⟨rfl, hww⟩
                  subst hww
                  go_wp2_with fail
                  go_ret
                  exact ⟨rfl, rfl⟩
                · have h9 : (byt v == 92) = false := by rw [beq_eq_false_iff_ne]; exact hy2
                  have hy3 : byt v = 0 := by
                    rcases hx with h | h | h
                    · exact absurd h hy1
                    · exact absurd h hy2
                    · exact h
                  have h10 : (byt v == 0) = true := by rw [beq_iff_eq]; exact hy3
                  clear hx hy1 hy2 hy3
                  go_wp2_with fail
                  refine (HT.out _).mono ?_
                  rintro e w1 ⟨rfl, hww⟩
                  subst hww
                  go_wp2_with fail
                  refine (hPv.out _).mono ?_
                  rintro e w1 ⟨rfl, hww⟩
                  subst hww
                  go_wp2_with fail
                  go_ret
                  exact ⟨rfl, rfl⟩
            · have hy1 : ¬ byt v = 47 := fun h => hx (.inl h)
              have hy2 : ¬ byt v = 92 := fun h => hx (.inr (.inl h))
              have hy3 : ¬ byt v = 0 := fun h => hx (.inr (.inr h))
              rw [FN.2.2.2.2 hp hy1 hy2 hy3, Bool.true_and] at HR2
              have h8 : (byt v == 47) = false := by rw [beq_eq_false_iff_ne]; exact hy1
              have h9 : (byt v == 92) = false := by rw [beq_eq_false_iff_ne]; exact hy2
              have h10 : (byt v == 0) = false := by rw [beq_eq_false_iff_ne]; exact hy3
              clear FN hp hx hy1 hy2 hy3
              go_wp2_with fail
              refine (HT.out _).mono ?_
              rintro e w1 ⟨rfl, hww⟩
              subst hww
              go_wp2_with fail
              refine (hPv.out _).mono ?_
              rintro e w1 ⟨rfl, hww⟩
              subst hww
              go_wp2_with fail
              go_round
              case rel => exact ⟨k + 3, b, by omega, by simp; omega, HB, HR2⟩
              case measure => simp [intOf]; omega
        | none =>
          rw [hdr, toks_raw hv] at HR
          have HR2 : Hid ((sign d && scanT d (toks (l.drop (k + 1 + 1)))) = res) := by
            have := HR.out
            simp only [scanT, if_neg (fun h => hc (by rw [h]; rfl) : ¬ d = 47)] at this
            exact Lib.hid this
          rw [hdr, toldI_none hv] at HT
          have hSd := Lib.hid (fun w => refSign_any d w)
          clear hdr HR HP HS hv hc HPV
          cases hs : sign d with
          | true =>
            rw [hs] at hSd
            rw [hs, Bool.true_and] at HR2
            clear hs
            go_wp2_with fail
            refine (HT.out _).mono ?_
            rintro e w1 ⟨rfl, hww⟩
            subst hww
            go_wp2_with fail
            refine (hSd.out _).mono ?_
            rintro e w1 ⟨rfl, hww⟩
            subst hww
            go_wp2_with fail
            go_round
            case rel => exact ⟨k + 1, d, by omega, by simp, HD, HR2⟩
            case measure => simp [intOf]; omega
          | false =>
            rw [hs] at hSd
            rw [hs, Bool.false_and] at HR2
            have hr : res = false := HR2.out.symm
            subst hr
            clear hs HR2
            go_wp2_with fail
            refine (HT.out _).mono ?_
            rintro e w1 ⟨rfl, hww⟩
            subst hww
            go_wp2_with fail
            refine (hSd.out _).mono ?_
            rintro e w1 ⟨rfl, hww⟩
            subst hww
            go_wp2_with fail
            go_ret
            exact ⟨rfl, rfl⟩
    · have hk2 : ¬ (k : Int) + 1 < (l.length : Int) := by omega
      have hkl : l.length = k + 1 := by omega
      have i6 : (k : Int) < (l.length : Int) := by omega
      have i8 : (l.length : Int) - 1 = (k : Int) := by omega
      have hr : res = (byt p != 47 && byt p != 46) := by
        rw [← HR.out, List.drop_eq_nil_of_le (by omega)]
        exact last_ok p
      subst hr
      clear HR HPV hkl HP HS
      go_wp2_with fail
      all_goals first
        | (go_ret; exact ⟨rfl, rfl⟩)
        | (refine bodyPost_ret (v := .bool (byt p != 47 && byt p != 46)) (by simp [results, Tryd.f15, go_sem]) rfl ⟨rfl, rfl⟩)
theorem refRight_any (l : List UInt8) (w : World) (hl : l.length ≤ 1099511627776) : Calls Tryd.prog 15 #[.string (str l)] w fun e w' => e = .returned (.bool (rightB l)) ∧ w' = w := by
  by_cases h1 : l.length < 2
  · have : rightB l = false := by
      cases h : rightB l with
      | false => rfl
      | true => have := right_len h; omega
    rw [this]
    have i1 : (l.length : Int) < 2 := by omega
    go_enter Tryd.func15, Tryd.ntmps15
    go_wp2_with fail
    go_ret
    exact ⟨rfl, rfl⟩
  · have i1 : ¬ (l.length : Int) < 2 := by omega
    by_cases h2 : 255 < l.length
    · have : rightB l = false := by
        cases h : rightB l with
        | false => rfl
        | true => have := right_len h; omega
      rw [this]
      have i2 : (255 : Int) < (l.length : Int) := by omega
      go_enter Tryd.func15, Tryd.ntmps15
      go_wp2_with fail
      go_ret
      exact ⟨rfl, rfl⟩
    · have i2 : ¬ (255 : Int) < (l.length : Int) := by omega
      obtain ⟨a, r, hr⟩ : ∃ a r, l = a :: r := by
        cases l with
        | nil => simp at h1
        | cons a r => exact ⟨a, r, rfl⟩
      have h0 : l[0]? = some a := by rw [hr]; rfl
      by_cases ha : byt a = 47
      · have ha2 : a = 47 := byt_inj ha
        refine refRight_in l w (rightB l) (by omega) (by omega) (by rw [h0, ha2]) (Lib.hid ?_)
        have hlen : r.length + 1 = l.length := by rw [hr]; rfl
        rw [hr, ha2, right_scan, decide_eq_true (by omega)]; rfl
      · have : rightB l = false := by
          cases h : rightB l with
          | false => rfl
          | true =>
            obtain ⟨q, hq⟩ := right_head h
            rw [hr] at hq
            injection hq with hq
            exact absurd (by rw [hq]; rfl) ha
        rw [this]
        have e0 : ∀ h : 0 < l.length, l[0]'h = a := fun h => by rw [List.getElem?_eq_getElem h] at h0; exact Option.some.inj h0
        have i3 : (0 : Int) < (l.length : Int) := by omega
        have h5 : (byt a == 47) = false := by rw [beq_eq_false_iff_ne]; exact ha
        clear hr h0 ha
        go_enter Tryd.func15, Tryd.ntmps15
        go_wp2_with fail
        go_ret
        exact ⟨rfl, rfl⟩
end Go.Proofs.YthedhominhgeaaaDoor
