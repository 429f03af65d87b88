/- Every Read answers what the document says; what is read is written as it was: the walk of the law. -/
import Derived.Test.YtgapahmjcladlaaKnd
import Derived.Test.YtgapahmjcladlaaAlive
import Derived.Deep.DeepCutAuto
import Derived.Deep.RegionWith
import Derived.Deep.RegionHeld3
namespace Go.Proofs.Ytgapahmjcladlaa
open Go.RowKit
set_option linter.unusedVariables false

set_option maxRecDepth 100000 in
set_option maxHeartbeats 4000000 in
theorem lawR (bs : List UInt8) (a : Option Addr) (n cap : Nat) (p : Int) (ka : Option Addr) (m mc : Nat) (ks : List Int) (w : World) (hl : bs.length = n) (hn0 : n ≤ 9223372036854775807) (hcap : n ≤ cap) (hnil : a = none → n = 0 ∧ cap = 0) (hb : Bytes w a bs) (hp : -9223372036854775808 ≤ p ∧ p ≤ 9223372036854775807) (hkl : ks.length = m) (hm0 : m ≤ 9223372036854775807) (hk : Ints w ka ks) (hT : Tab w) :
    Calls Try.prog 3 #[.slice a n cap, .int .i64 p, .slice ka m mc] w fun e w' => e = .returned (.bool true) ∧ Below w.heap.size w w' := by
  have HA := Lib.hid (alive_any w hT)
  have HL := Lib.hid hl; have HB := Lib.hid hb; have HN := Lib.hid hnil; have HK := Lib.hid hk; have HKL := Lib.hid hkl
  clear hl hb hnil hk hkl
  by_cases hlong : 3000 < n
  · go_enter Try.func3, Try.ntmps3
    go_wp2_with fail
    refine HA.out.mono ?_
    rintro e w1 ⟨rfl, hB1⟩
    go_wp2_with fail
    go_ret
    exact ⟨rfl, hB1⟩
  by_cases hmany : 40 < m
  · go_enter Try.func3, Try.ntmps3
    go_wp2_with fail
    refine HA.out.mono ?_
    rintro e w1 ⟨rfl, hB1⟩
    go_wp2_with fail
    go_ret
    exact ⟨rfl, hB1⟩
  have hn : n ≤ 1099511627776 := by omega
  have hm : m ≤ 1099511627776 := by omega
  clear hn0 hm0
  go_enter Try.func3, Try.ntmps3
  go_wp2_with fail
  refine HA.out.mono ?_
  rintro e w1 ⟨rfl, hb1⟩
  have HB1 := Lib.hid hb1
  have HY1 := Lib.hid (HB.out.below hb1)
  have HK1 := Lib.hid (HK.out.below hb1)
  clear hb1 HB HK HA hT
  go_wp2_with fail
  have hbl : Below w1.heap.size w1 (w1.alloc (.cells #[] 26)) := (Below.refl _ _).alloc (Nat.le_refl _) _
  have HO := Lib.hid (OwnI.lit w1)
  obtain ⟨w2, hw2⟩ : ∃ x, x = w1.alloc (.cells #[] 26) := ⟨_, rfl⟩
  rw [← hw2] at hbl HO ⊢
  have HBL := Lib.hid hbl
  clear hbl hw2
  go_loopw [7, 8] (fun s7 s8 wx => ∃ (j : Nat), j ≤ m ∧ s8 = .int .i64 j ∧ Hid (OwnI wx w1.heap.size s7 (ks.take j)) ∧ Hid (Below w1.heap.size w1 wx)) (fun _ i _ => m - (intOf i).toNat)
  case atStart => exact ⟨0, by omega, rfl, HO, HBL⟩
  case round =>
    clear HO HBL
    obtain ⟨j, hj, rfl, HO, HBW⟩ := hrel
    by_cases hlt : j < m
    · obtain ⟨kb, ko, x, rfl, hx, hc⟩ := (HK1.out.below HBW.out).at (i := j) (by rw [HKL.out]; exact hlt)
      have i2 : (j : Int) < (m : Int) := by omega
      have hx2 : ks.take (j + 1) = ks.take j ++ [x] := by rw [List.take_add_one, hx]; rfl
      have HX := Lib.hid hx2
      have hbl : Below wr.heap.size wr (wr.alloc (.cells #[.int .i64 x] 26)) := (Below.refl _ _).alloc (Nat.le_refl _) _
      have hbk := alloc_at wr (.cells #[.int .i64 x] 26)
      have HBK := Lib.hid hbk
      have HO2 := Lib.hid (HO.out.below hbl)
      have HB2 := Lib.hid (below_step HBW.out hbl)
      have HLN : Hid ((ks.take j).length + 1 ≤ 1099511627776) := Lib.hid (by rw [List.length_take]; omega)
      obtain ⟨ao, ac, hs7⟩ := HO.out.form
      subst hs7
      clear hx hx2 hbl hbk HO HBW
      go_wp2_with (at_builtin; go_loud (refine wpList_append_int rfl (.tmp 32) (.tmp 37) 25 rfl Try.underlying25 info26 w1.heap.size _ (ks.take j) x wr.heap.size 1 rfl HO2.out rfl (cell_blk HBK.out 0 rfl) HLN.out HB2.out.size ?_))
      rintro v5 w5 hO5 hg5 hb5
      have HO5 : Hid (OwnI w5 w1.heap.size v5 (ks.take (j + 1))) := by rw [HX.out]; exact Lib.hid hO5
      have HB5 := Lib.hid (HB2.out.trans hb5)
      clear hO5 hg5 hb5 HO2 HB2 HBK
      go_wp2_with fail
      go_roundw
      case rel => exact ⟨j + 1, by omega, by simp, HO5, HB5⟩
      case measure => simp [intOf]; omega
    · have hjm : j = m := by omega
      have hkt : ks.take j = ks := by rw [hjm, ← HKL.out, List.take_length]
      rw [hkt] at HO
      obtain ⟨ko, kc, hs7⟩ := HO.out.form
      rw [HKL.out] at hs7
      subst hs7
      have HI := Lib.hid HO.out.ints
      obtain ⟨w3, hw3⟩ : ∃ x, x = wr := ⟨_, rfl⟩
      have HY3 : Hid (Bytes w3 a bs) := by rw [hw3]; exact Lib.hid (HY1.out.below HBW.out)
      have HK3 : Hid (Ints w3 ka ks) := by rw [hw3]; exact Lib.hid (HK1.out.below HBW.out)
      have HI3 : Hid (Ints w3 ko ks) := by rw [hw3]; exact HI
      have HB3 : Hid (Below w.heap.size w w3) := by rw [hw3]; exact Lib.hid (HB1.out.trans (HBW.out.mono HB1.out.size))
      rw [← hw3]
      clear hw3 HI HO HBW HY1 HK1 HB1 hkt hjm
      have HR := Lib.hid (read_any a n cap p ko m kc bs ks HL.out hn hcap HN.out HKL.out hm w3 HY3.out HI3.out)
      cases hres : readV bs p ks with
      | none =>
        rw [hres] at HR
        go_wp2_with fail
        refine HR.out.mono ?_
        rintro e w4 ⟨h4, rfl⟩
        have HB4 := Lib.hid (below_step HB3.out h4)
        have HRR := Lib.hid (refRead_any a n cap p ka m mc bs ks HL.out hn hcap HN.out HKL.out hm w4 (HY3.out.below h4) (HK3.out.below h4))
        rw [hres] at HRR
        clear h4 hres HR
        go_wp2_with fail
        refine HRR.out.mono ?_
        rintro e w5 ⟨h5, rfl⟩
        have HB5 := Lib.hid (below_step HB4.out h5)
        clear h5 HRR
        have HS := Lib.hid (sameF_any 0 0 none none 0 0 0 [] rfl (by omega) (fun f hf => by cases hf) w5 (fun i f hf => by simp at hf) (fun i f hf => by simp at hf))
        go_wp2_with fail
        refine HS.out.mono ?_
        rintro e w6 ⟨rfl, h6⟩
        have HB6 := Lib.hid (below_step HB5.out h6)
        clear h6 HS
        go_wp2_with fail
        go_quiet (fail)
        go_wp2_with fail
        go_ret
        exact ⟨rfl, Below.drewN HB6.out _⟩
      | some fq =>
        obtain ⟨fs, q⟩ := fq
        obtain ⟨p', rfl, hpq, hqn, hw, hf, hfl⟩ := readV_write hres
        obtain ⟨z, rfl⟩ : ∃ z, q = p' + z := ⟨q - p', by omega⟩
        rw [show p' + z - p' = z by omega] at hw
        rw [hres] at HR
        dsimp only at HR
        have HW := Lib.hid hw; have HF := Lib.hid hf
        have HFL : Hid (fs.length = m) := Lib.hid (by rw [hfl, HKL.out])
        have hqn2 : p' + z ≤ n := by rw [← HL.out]; exact hqn
        clear hw hf hfl hqn
        have hres2 : Hid (readV bs (p' : Int) ks = some (fs, p' + z)) := Lib.hid hres
        clear hres
        go_wp2_with fail
        refine HR.out.mono ?_
        rintro e w4 ⟨h4, lv, rfl, hO4⟩
        obtain ⟨lo, lc, hlv, _, _⟩ := hO4.form
        rw [HFL.out] at hlv
        subst hlv
        have HF4 := Lib.hid hO4.fs
        have HB4 := Lib.hid (below_step HB3.out h4)
        have HY4 := Lib.hid (HY3.out.below h4)
        have HRR := Lib.hid (refRead_any a n cap p' ka m mc bs ks HL.out hn hcap HN.out HKL.out hm w4 HY4.out (HK3.out.below h4))
        rw [hres2.out] at HRR
        dsimp only at HRR
        clear h4 hres2 HR hO4
        go_wp2_with fail
        refine HRR.out.mono ?_
        rintro e w5 ⟨h5, lv, rfl, hO5⟩
        obtain ⟨ro, rc, hlv, _, _⟩ := hO5.form
        rw [HFL.out] at hlv
        subst hlv
        have HG5 := Lib.hid hO5.fs
        have HF5 := Lib.hid (HF4.out.below h5)
        have HB5 := Lib.hid (below_step HB4.out h5)
        have HY5 := Lib.hid (HY4.out.below h5)
        clear h5 HRR hO5
        have HS := Lib.hid (sameF_any 0 w4.heap.size lo ro m lc rc fs HFL.out hm (fun f hf => by have := (HF.out f hf).2; rw [HL.out] at this; omega) w5 HF5.out HG5.out)
        go_wp2_with fail
        refine HS.out.mono ?_
        rintro e w6 ⟨rfl, h6⟩
        have HF6 := Lib.hid (HF5.out.below h6)
        have HB6 := Lib.hid (below_step HB5.out h6)
        have HY6 := Lib.hid (HY5.out.below h6)
        clear h6 HS HF4 HF5 HG5 HB3 HB4 HB5 HY3 HY4 HY5 HK3 HI3
        go_wp2_with fail
        obtain ⟨P, hP⟩ : ∃ P, P = (bs.drop p').take z := ⟨_, rfl⟩
        have HPL : Hid (P.length = z) := Lib.hid (by rw [hP, part_len (by rw [HL.out]; exact hqn2)])
        have D12 : Hid (∀ W : World, Hid (Below w6.heap.size w6 W) → Calls Try.prog 12 #[.slice lo m lc] W fun e w' => ∃ v, e = .returned v ∧ OwnB w' W.heap.size 5 v P ∧ Hid (Below w6.heap.size w6 w')) := Lib.hid (fun W hW => by
          have := write_any 0 lo m lc fs HFL.out hm (by rw [HW.out, part_len (by rw [HL.out]; exact hqn2)]; omega) (fun f hf => (HF.out f hf).1) W (HF6.out.below hW.out)
          rw [HW.out, ← hP] at this
          exact this.mono fun e w' h => (by obtain ⟨v, h1, h2, h3⟩ := h; exact ⟨v, h1, h2, Lib.hid (below_step hW.out h3)⟩))
        have HP := Lib.hid hP
        clear hP HF6 HW HF HFL hlong hmany hn
        cases a with
        | none =>
          obtain ⟨e1, e2⟩ := HN.out rfl
          subst e1; subst e2
          have hp0 : p' = 0 := by omega
          have hz0 : z = 0 := by omega
          subst hp0; subst hz0
          clear HN HL HKL HY6 HP
          go_region_held3 (fun W => Hid (Below w6.heap.size w6 W)) (first | assumption | exact Lib.hid (Below.drewN (Below.refl _ _) 1)) (first
            | (go_at_call 12; refine (D12.out _ (by first | assumption | exact Lib.hid (Below.drewN (Below.refl _ _) 1))).mono ?_; rintro e w7 ⟨v7, rfl, hO7, hb7⟩; obtain ⟨ao7, ac7, hv7⟩ := hO7.form'; rw [HPL.out] at hv7; subst hv7)
            | (go_at_call 11; refine (same_any ao7 _ 0 0 ac7 _ P P _ HPL.out HPL.out (by omega) (by omega) (hO7.bytes' HPL.out) (.inl (List.length_eq_zero_iff.1 HPL.out))).mono ?_; rw [decide_eq_true rfl]; rintro e w8 ⟨rfl, h8⟩; have hb8 : Hid (Below w6.heap.size w6 w8) := Lib.hid (below_step hb7.out h8)))
          all_goals
            go_wp2_with fail
            go_ret
            exact ⟨rfl, below_step HB6.out (by assumption : Hid (Below w6.heap.size w6 _)).out⟩
        | some ad =>
          rcases HY6.out with hnb | ⟨b, o, had, hcc⟩
          · have hn0 : n = 0 := by have := HL.out; rw [hnb] at this; simpa using this.symm
            have hp0 : p' = 0 := by omega
            have hz0 : z = 0 := by omega
            subst hn0; subst hp0; subst hz0
            clear HN HL HKL HY6 HP
            by_cases hc0 : cap = 0
            · subst hc0
              go_region_held3 (fun W => Hid (Below w6.heap.size w6 W)) (first | assumption | exact Lib.hid (Below.drewN (Below.refl _ _) 1)) (first
                | (go_at_call 12; refine (D12.out _ (by first | assumption | exact Lib.hid (Below.drewN (Below.refl _ _) 1))).mono ?_; rintro e w7 ⟨v7, rfl, hO7, hb7⟩; obtain ⟨ao7, ac7, hv7⟩ := hO7.form'; rw [HPL.out] at hv7; subst hv7)
                | (go_at_call 11; refine (same_any ao7 _ 0 0 ac7 _ P P _ HPL.out HPL.out (by omega) (by omega) (hO7.bytes' HPL.out) (.inl (List.length_eq_zero_iff.1 HPL.out))).mono ?_; rw [decide_eq_true rfl]; rintro e w8 ⟨rfl, h8⟩; have hb8 : Hid (Below w6.heap.size w6 w8) := Lib.hid (below_step hb7.out h8)))
              all_goals
                go_wp2_with fail
                go_ret
                exact ⟨rfl, below_step HB6.out (by assumption : Hid (Below w6.heap.size w6 _)).out⟩
            · skip
              go_region_held3 (fun W => Hid (Below w6.heap.size w6 W)) (first | assumption | exact Lib.hid (Below.drewN (Below.refl _ _) 1)) (first
                | (go_at_call 12; refine (D12.out _ (by first | assumption | exact Lib.hid (Below.drewN (Below.refl _ _) 1))).mono ?_; rintro e w7 ⟨v7, rfl, hO7, hb7⟩; obtain ⟨ao7, ac7, hv7⟩ := hO7.form'; rw [HPL.out] at hv7; subst hv7)
                | (go_at_call 11; refine (same_any ao7 _ 0 0 ac7 _ P P _ HPL.out HPL.out (by omega) (by omega) (hO7.bytes' HPL.out) (.inl (List.length_eq_zero_iff.1 HPL.out))).mono ?_; rw [decide_eq_true rfl]; rintro e w8 ⟨rfl, h8⟩; have hb8 : Hid (Below w6.heap.size w6 w8) := Lib.hid (below_step hb7.out h8)))
              all_goals
                go_wp2_with fail
                go_ret
                exact ⟨rfl, below_step HB6.out (by assumption : Hid (Below w6.heap.size w6 _)).out⟩
          · cases had
            have HYC : Hid (Bytes w6 (some ⟨b, o + p', none⟩) P) := by rw [HP.out]; exact Lib.hid ((Bytes.drop hcc p').take z)
            clear hcc
            by_cases hcp : cap = p'
            · have hz0 : z = 0 := by omega
              have hpn : p' = n := by omega
              subst hcp; subst hpn; subst hz0
              clear HN HL HKL HY6 HP
              go_region_held3 (fun W => Hid (Below w6.heap.size w6 W)) (first | assumption | exact Lib.hid (Below.drewN (Below.refl _ _) 1)) (first
                | (go_at_call 12; refine (D12.out _ (by first | assumption | exact Lib.hid (Below.drewN (Below.refl _ _) 1))).mono ?_; rintro e w7 ⟨v7, rfl, hO7, hb7⟩; obtain ⟨ao7, ac7, hv7⟩ := hO7.form'; rw [HPL.out] at hv7; subst hv7)
                | (go_at_call 11; refine (same_any ao7 _ 0 0 ac7 _ P P _ HPL.out HPL.out (by omega) (by omega) (hO7.bytes' HPL.out) (.inl (List.length_eq_zero_iff.1 HPL.out))).mono ?_; rw [decide_eq_true rfl]; rintro e w8 ⟨rfl, h8⟩; have hb8 : Hid (Below w6.heap.size w6 w8) := Lib.hid (below_step hb7.out h8)))
              all_goals
                go_wp2_with fail
                go_ret
                exact ⟨rfl, below_step HB6.out (by assumption : Hid (Below w6.heap.size w6 _)).out⟩
            · have hcp2 : ¬ cap - p' = 0 := by omega
              have j1 : (0 : Int) ≤ (p' : Int) := by omega
              have j2 : (p' : Int) ≤ (p' : Int) + (z : Int) := by omega
              have j3 : (p' : Int) + (z : Int) ≤ (cap : Int) := by omega
              have j4 : (0 : Int) ≤ (p' : Int) + (z : Int) := by omega
              have j5 : p' ≤ p' + z := by omega
              have j6 : p' + z ≤ cap := by omega
              clear HN HL HKL HY6 HP
              go_region_held3 (fun W => Hid (Below w6.heap.size w6 W)) (first | assumption | exact Lib.hid (Below.drewN (Below.refl _ _) 1)) (first
                | (go_at_call 12; refine (D12.out _ (by first | assumption | exact Lib.hid (Below.drewN (Below.refl _ _) 1))).mono ?_; rintro e w7 ⟨v7, rfl, hO7, hb7⟩; obtain ⟨ao7, ac7, hv7⟩ := hO7.form'; rw [HPL.out] at hv7; subst hv7)
                | (go_at_call 11; refine (same_any ao7 (some ⟨b, o + p', none⟩) z (p' + z - p') ac7 (cap - p') P P _ HPL.out (by rw [HPL.out]; omega) (by omega) (by omega) (hO7.bytes' HPL.out) (HYC.out.below hb7.out)).mono ?_; rw [decide_eq_true rfl]; rintro e w8 ⟨rfl, h8⟩; have hb8 : Hid (Below w6.heap.size w6 w8) := Lib.hid (below_step hb7.out h8)))
              all_goals
                go_wp2_with fail
                go_ret
                exact ⟨rfl, below_step HB6.out (by assumption : Hid (Below w6.heap.size w6 _)).out⟩
end Go.Proofs.Ytgapahmjcladlaa
