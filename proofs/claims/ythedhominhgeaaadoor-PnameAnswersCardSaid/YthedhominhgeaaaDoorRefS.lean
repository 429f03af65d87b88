/- The last slash, the extension, a part's name, by the document's answer: what the calls compute. -/
import Derived.Test.YthedhominhgeaaaDoorRefD
namespace Go.Proofs.YthedhominhgeaaaDoor
open Go.RowKit
set_option linter.unusedVariables false
attribute [local go_sem] nat_byt str_size str_get str_from str_to str_list lit_list wrap_byt

theorem last_take {l : List UInt8} {k : Nat} {b : UInt8} (c : UInt8) (h : l[k]? = some b) : lastP (l.take (k + 1)) c = if b = c then k + 1 else lastP (l.take k) c := by
  have hk : k < l.length := by
    rcases Nat.lt_or_ge k l.length with h2 | h2
    · exact h2
    · rw [List.getElem?_eq_none h2] at h; cases h
  have e : l.take (k + 1) = l.take k ++ [b] := by rw [List.take_add_one, h]; rfl
  have hl : (l.take k).length = k := by rw [List.length_take]; omega
  refine (lastP_is _ _).eq ?_
  by_cases hb : b = c
  · rw [if_pos hb, e]
    refine .inr ⟨k, rfl, ?_, fun j hj => ?_⟩
    · rw [List.getElem?_append_right (by omega), hl, Nat.sub_self, hb]; rfl
    · rw [List.getElem?_eq_none (by simp; omega)]; simp
  · rw [if_neg hb, e]
    rcases lastP_is (l.take k) c with ⟨h0, h1⟩ | ⟨q, h0, h1, h2⟩
    · refine .inl ⟨h0, fun i => ?_⟩
      rcases Nat.lt_or_ge i k with hi | hi
      · rw [List.getElem?_append_left (by omega)]; exact h1 i
      · rw [List.getElem?_append_right (by omega)]
        intro hx
        rcases Nat.eq_zero_or_pos (i - (l.take k).length) with h3 | h3
        · rw [h3] at hx
          exact hb (by simpa using hx)
        · rw [List.getElem?_eq_none (by simp; omega)] at hx; cases hx
    · have hq : q < (l.take k).length := by
        rcases Nat.lt_or_ge q (l.take k).length with h3 | h3
        · exact h3
        · rw [List.getElem?_eq_none h3] at h1; cases h1
      refine .inr ⟨q, h0, by rw [List.getElem?_append_left hq]; exact h1, fun i hi => ?_⟩
      rcases Nat.lt_or_ge i k with hi2 | hi2
      · rw [List.getElem?_append_left (by omega)]; exact h2 i hi
      · rw [List.getElem?_append_right (by omega)]
        intro hx
        rcases Nat.eq_zero_or_pos (i - (l.take k).length) with h3 | h3
        · rw [h3] at hx
          exact hb (by simpa using hx)
        · rw [List.getElem?_eq_none (by simp; omega)] at hx; cases hx

theorem refSlash_any (l : List UInt8) (w : World) (hl : l.length ≤ 1099511627776) : Calls Tryd.prog 17 #[.string (str l)] w fun e w' => e = .returned (.int .i64 ((lastP l 47 : Int) - 1)) ∧ w' = w := by
  obtain ⟨res, hres⟩ : ∃ res : Int, res = (lastP l 47 : Int) - 1 := ⟨_, rfl⟩
  rw [← hres]
  have HR := Lib.hid hres
  clear hres
  go_enter Tryd.func17, Tryd.ntmps17
  go_wp2_with fail
  go_loop [3, 4] (fun s3 s4 => ∃ (k : Nat) (m : Int), k ≤ l.length ∧ s4 = .int .i64 k ∧ s3 = .int .i64 m ∧ Hid (m = (lastP (l.take k) 47 : Int) - 1)) (fun _ i => l.length - (intOf i).toNat)
  case atStart => exact ⟨0, -1, by omega, rfl, rfl, Lib.hid rfl⟩
  case round =>
    obtain ⟨k, m, hk, rfl, rfl, HM⟩ := hrel
    by_cases hlt : k < l.length
    · obtain ⟨d, hd⟩ : ∃ d, l[k]? = some d := ⟨l[k], List.getElem?_eq_getElem (by omega)⟩
      have e0 : ∀ h : k < l.length, l[k]'h = d := fun h => by rw [List.getElem?_eq_getElem h] at hd; exact Option.some.inj hd
      have i2 : (k : Int) < (l.length : Int) := by omega
      have ht := last_take 47 hd
      clear hd
      by_cases hc : byt d = 47
      · rw [if_pos (byt_inj hc)] at ht
        have HM2 : Hid ((k : Int) = (lastP (l.take (k + 1)) 47 : Int) - 1) := Lib.hid (by rw [ht]; omega)
        have h5 : (byt d == 47) = true := by rw [beq_iff_eq]; exact hc
        clear ht hc HM
        go_wp2_with fail
        go_round
        case rel => exact ⟨k + 1, k, by omega, by simp, rfl, HM2⟩
        case measure => simp [intOf]; omega
      · rw [if_neg (fun h => hc (by rw [h]; rfl))] at ht
        have HM2 : Hid (m = (lastP (l.take (k + 1)) 47 : Int) - 1) := by rw [ht]; exact HM
        have h5 : (byt d == 47) = false := by rw [beq_eq_false_iff_ne]; exact hc
        clear ht hc HM
        go_wp2_with fail
        go_round
        case rel => exact ⟨k + 1, m, by omega, by simp, rfl, HM2⟩
        case measure => simp [intOf]; omega
    · have hk2 : ¬ (k : Int) < (l.length : Int) := by omega
      have hm : m = res := by rw [HR.out, HM.out, List.take_of_length_le (by omega)]
      subst hm
      clear HM HR
      go_wp2_with fail
      go_ret
      exact ⟨rfl, rfl⟩

set_option maxHeartbeats 1000000 in
theorem refExt_any (l : List UInt8) (w : World) (hl : l.length ≤ 1000000) : Calls Tryd.prog 21 #[.string (str l)] w fun e w' => e = .returned (.string (str (extL l))) ∧ Below w.heap.size w w' := by
  have HS := Lib.hid (fun w => refSlash_any l w (by omega))
  have hle := lastP_le l 47
  have hbl : (baseL l).length ≤ 1000000 := by unfold baseL; rw [List.length_drop]; omega
  obtain ⟨b, hb⟩ : ∃ b, b = baseL l := ⟨_, rfl⟩
  rw [← hb] at hbl
  have hb2 : l.drop (lastP l 47) = b := hb.symm
  obtain ⟨res, hres⟩ : ∃ res, res = extL l := ⟨_, rfl⟩
  have hr2 : res = if lastP b 46 = 0 then [] else foldL (b.drop (lastP b 46)) := by rw [hres, hb]; rfl
  rw [← hres]
  have HR := Lib.hid hr2
  clear hres hr2 hb
  generalize lastP l 47 = p at *
  have i1 : ((p : Int) - 1) + 1 = (p : Int) := by omega
  have i2 : (p : Int) ≤ (l.length : Int) := by omega
  have i3 : (0 : Int) ≤ (p : Int) := by omega
  go_enter Tryd.func21, Tryd.ntmps21
  go_wp2_with fail
  refine (HS.out _).mono ?_
  rintro e w1 ⟨rfl, hww⟩
  subst hww
  go_wp2_with fail
  clear HS
  go_loop [3, 4] (fun s3 s4 => ∃ (k : Nat) (m : Int), k ≤ b.length ∧ s4 = .int .i64 k ∧ s3 = .int .i64 m ∧ Hid (m = (lastP (b.take k) 46 : Int) - 1)) (fun _ i => b.length - (intOf i).toNat)
  case atStart => exact ⟨0, -1, by omega, rfl, rfl, Lib.hid rfl⟩
  case round =>
    clear hb2 i1 i2 i3 hle
    obtain ⟨k, m, hk, rfl, rfl, HM⟩ := hrel
    by_cases hlt : k < b.length
    · obtain ⟨d, hd⟩ : ∃ d, b[k]? = some d := ⟨b[k], List.getElem?_eq_getElem (by omega)⟩
      have e0 : ∀ h : k < b.length, b[k]'h = d := fun h => by rw [List.getElem?_eq_getElem h] at hd; exact Option.some.inj hd
      have i2 : (k : Int) < (b.length : Int) := by omega
      have ht := last_take 46 hd
      clear hd
      by_cases hc : byt d = 46
      · rw [if_pos (byt_inj hc)] at ht
        have HM2 : Hid ((k : Int) = (lastP (b.take (k + 1)) 46 : Int) - 1) := Lib.hid (by rw [ht]; omega)
        have h5 : (byt d == 46) = true := by rw [beq_iff_eq]; exact hc
        clear ht hc HM
        go_wp2_with fail
        go_round
        case rel => exact ⟨k + 1, k, by omega, by simp, rfl, HM2⟩
        case measure => simp [intOf]; omega
      · rw [if_neg (fun h => hc (by rw [h]; rfl))] at ht
        have HM2 : Hid (m = (lastP (b.take (k + 1)) 46 : Int) - 1) := by rw [ht]; exact HM
        have h5 : (byt d == 46) = false := by rw [beq_eq_false_iff_ne]; exact hc
        clear ht hc HM
        go_wp2_with fail
        go_round
        case rel => exact ⟨k + 1, m, by omega, by simp, rfl, HM2⟩
        case measure => simp [intOf]; omega
    · have hk2 : ¬ (k : Int) < (b.length : Int) := by omega
      have hm : m = (lastP b 46 : Int) - 1 := by rw [HM.out, List.take_of_length_le (by omega)]
      have hqle := lastP_le b 46
      have HR2 := HR.out
      clear HM HR
      generalize lastP b 46 = q at *
      subst hm
      by_cases h0 : q = 0
      · subst h0
        rw [if_pos rfl] at HR2
        subst HR2
        go_wp2_with fail
        go_ret
        exact ⟨rfl, Below.refl _ _⟩
      · rw [if_neg h0] at HR2
        subst HR2
        have HF := Lib.hid (fun w => refFold_any (b.drop q) w (by rw [List.length_drop]; omega))
        have j1 : ((q : Int) - 1) + 1 = (q : Int) := by omega
        have j2 : (q : Int) ≤ (b.length : Int) := by omega
        have j3 : (0 : Int) ≤ (q : Int) := by omega
        have j4 : ¬ ((q : Int) - 1 < 0) := by omega
        go_wp2_with fail
        refine (HF.out _).mono ?_
        rintro e w1 ⟨rfl, h⟩
        go_wp2_with fail
        go_ret
        exact ⟨rfl, h⟩
end Go.Proofs.YthedhominhgeaaaDoor
