/- Numbers and bytes that are written are read as they were: the walk of the law. -/
import Derived.Test.YtgapahmjcladlaaBk
import Derived.Lib.QuietBelow
namespace Go.Proofs.Ytgapahmjcladlaa
open Go.RowKit Go.Sort
set_option linter.unusedVariables false

set_option maxRecDepth 100000 in
set_option maxHeartbeats 8000000 in
theorem lawK (ls : List (List UInt8)) (a : Option Addr) (b o n cap : Nat) (long : Bool) (rest : List UInt8) (ra : Option Addr) (rn rc : Nat) (w : World) (hl : ls.length = n) (hn0 : n ≤ 9223372036854775807) (ha : ls = [] ∨ a = some ⟨b, o, none⟩) (hr : BRows w.heap.size w b o ls)
    (hbig : ∀ l ∈ ls, l.length ≤ 9223372036854775807) (hrl : rest.length = rn) (hrn0 : rn ≤ 9223372036854775807) (hrb : Bytes w ra rest) (hrc : ra = none → rc = 0) (hT : Tab w) :
    Calls Try.prog 4 #[.slice a n cap, .bool long, .slice ra rn rc] w fun e w' => e = .returned (.bool true) ∧ Below w.heap.size w w' := by
  have HA := Lib.hid (alive_any w hT)
  have HL := Lib.hid hl; have HAD := Lib.hid ha; have HR := Lib.hid hr; have HBIG := Lib.hid hbig; have HRL := Lib.hid hrl; have HRB := Lib.hid hrb; have HRC := Lib.hid hrc
  clear hl ha hr hbig hrl hrb hrc hT
  by_cases hmany : 20 < n
  · go_enter Try.func4, Try.ntmps4
    go_wp2_with fail
    refine HA.out.mono ?_
    rintro e w1 ⟨rfl, hB1⟩
    go_wp2_with fail
    go_ret
    exact ⟨rfl, hB1⟩
  by_cases hlong : 1000 < rn
  · go_enter Try.func4, Try.ntmps4
    go_wp2_with fail
    refine HA.out.mono ?_
    rintro e w1 ⟨rfl, hB1⟩
    go_wp2_with fail
    go_ret
    exact ⟨rfl, hB1⟩
  have hn : n ≤ 20 := by omega
  have hrn : rn ≤ 1000 := by omega
  clear hn0 hrn0
  obtain ⟨kd, HKD, HKL⟩ : ∃ kd : Int, Hid (kd = 0 ∨ kd = 1) ∧ Hid ((long = false ∧ kd = 0) ∨ (long = true ∧ kd = 1)) := by
    cases long
    · exact ⟨0, .inl rfl, .inl ⟨rfl, rfl⟩⟩
    · exact ⟨1, .inr rfl, .inr ⟨rfl, rfl⟩⟩
  go_enter Try.func4, Try.ntmps4
  go_wp2_with fail
  refine HA.out.mono ?_
  rintro e w1 ⟨rfl, hb1⟩
  have HB1 := Lib.hid hb1
  have HR1 := Lib.hid ((HR.out.below hb1).mono hb1.size)
  have HRB1 := Lib.hid (HRB.out.below hb1)
  clear hb1 HR HRB HA
  go_upto_region 7 with fail
  have hbi : Below w1.heap.size w1 (w1.alloc (.cells #[] 26)) := (Below.refl _ _).alloc (Nat.le_refl _) _
  have hbf : Below (w1.alloc (.cells #[] 26)).heap.size (w1.alloc (.cells #[] 26)) ((w1.alloc (.cells #[] 26)).alloc (.cells #[] 39)) := (Below.refl _ _).alloc (Nat.le_refl _) _
  have HI := Lib.hid ((OwnI.lit w1).below hbf)
  have hof := (OwnF.lit w1.heap.size (w1.alloc (.cells #[] 26)) 39)
  rw [World.size_alloc] at hof
  have HF := Lib.hid (hof.mono (B' := w1.heap.size) (by omega))
  have HBL := Lib.hid (below_step hbi hbf)
  obtain ⟨w2, hw2⟩ : ∃ x, x = (w1.alloc (.cells #[] 26)).alloc (.cells #[] 39) := ⟨_, rfl⟩
  rw [← hw2] at HI HF HBL ⊢
  clear hbi hbf hof hw2
  obtain ⟨iv, hiv⟩ : ∃ v, v = Value.slice (some ⟨w1.heap.size, 0, none⟩) 0 0 := ⟨_, rfl⟩
  obtain ⟨fv, hfv⟩ : ∃ v, v = Value.slice (some ⟨w1.heap.size + 1, 0, none⟩) 0 0 := ⟨_, rfl⟩
  go_upto_if 29 with fail
  go_cut [9] (fun s9 wx => s9 = .int .i64 kd ∧ wx = w2)
  case first =>
    rcases HKL.out with ⟨rfl, rfl⟩ | ⟨rfl, rfl⟩
    · go_wp2_with fail
      go_meet
      exact ⟨rfl, rfl⟩
    · go_wp2_with fail
      go_meet
      exact ⟨rfl, rfl⟩
  case rest =>
    obtain ⟨rfl, rfl⟩ := hcut
    clear HKL hiv hfv
    go_wp2_with fail
    go_loopw [7, 8, 10] (fun s7 s8 s10 wx => ∃ (j : Nat), j ≤ n ∧ s10 = .int .i64 j ∧ Hid (OwnI wx w1.heap.size s7 (List.replicate j kd)) ∧ Hid (OwnF w1.heap.size wx w1.heap.size 39 s8 (nflds kd (ls.take j))) ∧ Hid (∀ l ∈ ls.take j, l.length ≤ 1000) ∧ Hid (Below w1.heap.size w1 wx)) (fun _ _ i _ => n - (intOf i).toNat)
    case atStart => exact ⟨0, by omega, rfl, HI, HF, Lib.hid (fun l h => by simp at h), HBL⟩
    case round =>
      clear HI HF HBL
      obtain ⟨j, hj, rfl, HI, HF, HS, HBW⟩ := hrel
      obtain ⟨io, ic, hiv⟩ := HI.out.form
      rw [List.length_replicate] at hiv
      subst hiv
      obtain ⟨fo, fc, hfv, _, _⟩ := HF.out.form
      rw [nflds_len, List.length_take, HL.out, Nat.min_eq_left hj] at hfv
      subst hfv
      by_cases hlt : j < n
      · obtain ⟨l, hlj⟩ : ∃ l, ls[j]? = some l := ⟨ls[j]'(by have := HL.out; omega), List.getElem?_eq_getElem _⟩
        have hab : a = some ⟨b, o, none⟩ := by
          rcases HAD.out with h | h
          · rw [h] at hlj; simp at hlj
          · exact h
        subst hab
        obtain ⟨v, hc1, hv1⟩ := HR1.out j l hlj
        obtain ⟨ad, vc, rfl, _, _, _⟩ := hv1.bytes
        have HC1 := Lib.hid hc1
        have hcr := cell_at HBW.out hc1
        have HLJ := Lib.hid hlj
        have i2 : (j : Int) < (n : Int) := by omega
        have hKb := HBIG.out l (List.mem_of_getElem? hlj)
        obtain ⟨K, hK⟩ : ∃ K, l.length = K := ⟨_, rfl⟩
        rw [hK] at hcr HC1 hKb
        have HKK := Lib.hid hK
        clear hK hlj hc1 hv1
        by_cases hk : K ≤ 1000
        · have i3 : ¬ 1000 < (K : Int) := by omega
          have hbl : Below wr.heap.size wr (wr.alloc (.cells #[.int .i64 kd] 26)) := (Below.refl _ _).alloc (Nat.le_refl _) _
          have hbk := alloc_at wr (.cells #[.int .i64 kd] 26)
          have HBK := Lib.hid hbk
          have HI2 := Lib.hid (HI.out.below hbl)
          have HF2 := Lib.hid (HF.out.below hbl)
          have HB2 := Lib.hid (below_step HBW.out hbl)
          have HLN : Hid ((List.replicate j kd).length + 1 ≤ 1099511627776) := Lib.hid (by rw [List.length_replicate]; omega)
          clear hbl hbk HI HF HBW
          go_wp2_with (at_builtin; go_loud (refine wpList_append_int rfl (.tmp 42) (.tmp 44) 25 rfl Try.underlying25 info26 w1.heap.size _ (List.replicate j kd) kd wr.heap.size 1 rfl HI2.out rfl (cell_blk HBK.out 0 rfl) HLN.out HB2.out.size ?_))
          rintro v5 w5 hI5 hg5 hb5
          have hF5 := HF2.out.apart HI2.out hg5 (Nat.le_refl _) HB2.out.size
          have HB5 := Lib.hid (HB2.out.trans hb5)
          have HI5 : Hid (OwnI w5 w1.heap.size v5 (List.replicate (j + 1) kd)) := by rw [List.replicate_succ']; exact Lib.hid hI5
          have HF5 := Lib.hid hF5
          have hcr5 := cell_at HB5.out HC1.out
          clear hI5 hg5 hb5 hF5 HI2 HF2 HB2 HBK HLN hcr
          have hbl : Below w5.heap.size w5 (w5.alloc (.cells #[.int .i64 kd, .int .i64 K, .slice none 0 0] 39)) := (Below.refl _ _).alloc (Nat.le_refl _) _
          have hbk := alloc_at w5 (.cells #[.int .i64 kd, .int .i64 K, .slice none 0 0] 39)
          have HBK := Lib.hid hbk
          have HI6 := Lib.hid (HI5.out.below hbl)
          have HF6 := Lib.hid (HF5.out.below hbl)
          have HB6 := Lib.hid (below_step HB5.out hbl)
          have HLN : Hid ((nflds kd (ls.take j)).length + 1 ≤ 1099511627776) := Lib.hid (by rw [nflds_len, List.length_take]; omega)
          clear hbl hbk HI5 HF5 HB5
          go_wp2_with (at_builtin; go_loud (refine wpList_append_fld w1.heap.size rfl (.tmp 46) (.tmp 54) 27 39 rfl Try.underlying27 (by decide) info39 w1.heap.size (Nat.le_refl _) _ (nflds kd (ls.take j)) ⟨kd, K, []⟩ w5.heap.size 1 (.slice none 0 0) rfl HF6.out rfl (cell_blk HBK.out 0 rfl) (cell_blk HBK.out 1 rfl) (cell_blk HBK.out 2 rfl) (Bv.nil _ _) HLN.out HB6.out.size ?_))
          rintro v7 w7 hF7 hg7 hb7
          have HI7 := Lib.hid (HI6.out.apart HF6.out hg7)
          have HF7 : Hid (OwnF w1.heap.size w7 w1.heap.size 39 v7 (nflds kd (ls.take (j + 1)))) := by rw [nflds_take HLJ.out, HKK.out]; exact Lib.hid hF7
          have HB7 := Lib.hid (HB6.out.trans hb7)
          have HS7 : Hid (∀ l ∈ ls.take (j + 1), l.length ≤ 1000) := Lib.hid (fun x hx => by
            rw [List.take_add_one, HLJ.out] at hx
            rcases List.mem_append.1 hx with hx | hx
            · exact HS.out x hx
            · simp at hx; subst hx; rw [HKK.out]; exact hk)
          clear hF7 hg7 hb7 HI6 HF6 HB6 HBK HLN hcr5
          go_wp2_with fail
          go_roundw
          case rel => exact ⟨j + 1, by omega, by simp, HI7, HF7, HS7, HB7⟩
          case measure => simp [intOf]; omega
        · have i3 : 1000 < (K : Int) := by omega
          go_wp2_with fail
          go_ret
          exact ⟨rfl, HB1.out.trans (HBW.out.mono HB1.out.size)⟩
      · have hjn : n = j := by omega
        subst hjn
        have hkt : ls.take n = ls := by rw [← HL.out, List.take_length]
        rw [hkt] at HF HS
        have hj2 : ¬ (n : Int) < (n : Int) := by omega
        obtain ⟨w3, hw3⟩ : ∃ x, x = wr := ⟨_, rfl⟩
        rw [← hw3] at HI HF HBW ⊢
        clear hw3 hkt
        go_wp2_with fail
        go_loopw [7, 8, 11] (fun s7 s8 s11 wx => ∃ (j : Nat), j ≤ n ∧ s11 = .int .i64 j ∧ Hid (OwnI wx w1.heap.size s7 (List.replicate n kd ++ List.replicate j 2)) ∧ Hid (OwnF w1.heap.size wx w1.heap.size 39 s8 (nflds kd ls ++ bflds (ls.take j))) ∧ Hid (Below w1.heap.size w1 wx)) (fun _ _ i _ => n - (intOf i).toNat)
        case atStart => exact ⟨0, by omega, rfl, by simpa using HI, by simpa [bflds] using HF, HBW⟩
        case round =>
          clear HI HF HBW
          obtain ⟨j, hj, rfl, HI, HF, HBW⟩ := hrel
          obtain ⟨io, ic, hiv⟩ := HI.out.form
          rw [List.length_append, List.length_replicate, List.length_replicate] at hiv
          subst hiv
          obtain ⟨fo, fc, hfv, _, _⟩ := HF.out.form
          rw [List.length_append, nflds_len, bflds_len, List.length_take, HL.out, Nat.min_eq_left hj] at hfv
          subst hfv
          obtain ⟨nj, hnj⟩ : ∃ x, x = n + j := ⟨_, rfl⟩
          rw [← hnj] at HI HF ⊢
          have hnj2 : nj ≤ 40 := by omega
          have HNJ := Lib.hid hnj
          clear hnj
          by_cases hlt : j < n
          · obtain ⟨l, hlj⟩ : ∃ l, ls[j]? = some l := ⟨ls[j]'(by have := HL.out; omega), List.getElem?_eq_getElem _⟩
            have hab : a = some ⟨b, o, none⟩ := by
              rcases HAD.out with h | h
              · rw [h] at hlj; simp at hlj
              · exact h
            subst hab
            obtain ⟨v, hc1, hv1⟩ := HR1.out j l hlj
            obtain ⟨ad, vc, rfl, _, _, _⟩ := hv1.bytes
            have HC1 := Lib.hid hc1
            have HV1 := Lib.hid hv1
            have HLJ := Lib.hid hlj
            have i2 : (j : Int) < (n : Int) := by omega
            obtain ⟨K, hK⟩ : ∃ K, l.length = K := ⟨_, rfl⟩
            rw [hK] at HC1 HV1
            clear hlj hc1 hv1 hK
            have hbl : Below wr.heap.size wr (wr.alloc (.cells #[.int .i64 2] 26)) := (Below.refl _ _).alloc (Nat.le_refl _) _
            have hbk := alloc_at wr (.cells #[.int .i64 2] 26)
            have HBK := Lib.hid hbk
            have HI2 := Lib.hid (HI.out.below hbl)
            have HF2 := Lib.hid (HF.out.below hbl)
            have HB2 := Lib.hid (below_step HBW.out hbl)
            have HLN : Hid ((List.replicate n kd ++ List.replicate j 2).length + 1 ≤ 1099511627776) := Lib.hid (by rw [List.length_append, List.length_replicate, List.length_replicate]; omega)
            clear hbl hbk HI HF HBW
            go_wp2_with (at_builtin; go_loud (refine wpList_append_int rfl (.tmp 62) (.tmp 63) 25 rfl Try.underlying25 info26 w1.heap.size _ (List.replicate n kd ++ List.replicate j 2) 2 wr.heap.size 1 rfl HI2.out rfl (cell_blk HBK.out 0 rfl) HLN.out HB2.out.size ?_))
            rintro v5 w5 hI5 hg5 hb5
            have hF5 := HF2.out.apart HI2.out hg5 (Nat.le_refl _) HB2.out.size
            have HB5 := Lib.hid (HB2.out.trans hb5)
            have HI5 : Hid (OwnI w5 w1.heap.size v5 (List.replicate n kd ++ List.replicate (j + 1) 2)) := by rw [List.replicate_succ']; exact Lib.hid (by simpa only [List.append_assoc] using hI5)
            have HF5 := Lib.hid hF5
            have hcr5 := cell_at HB5.out HC1.out
            have HV5 := Lib.hid (HV1.out.below HB5.out)
            clear hI5 hg5 hb5 hF5 HI2 HF2 HB2 HBK HLN
            have hbl : Below w5.heap.size w5 (w5.alloc (.cells #[.int .i64 2, .int .i64 0, .slice ad K vc] 39)) := (Below.refl _ _).alloc (Nat.le_refl _) _
            have hbk := alloc_at w5 (.cells #[.int .i64 2, .int .i64 0, .slice ad K vc] 39)
            have HBK := Lib.hid hbk
            have HI6 := Lib.hid (HI5.out.below hbl)
            have HF6 := Lib.hid (HF5.out.below hbl)
            have HB6 := Lib.hid (below_step HB5.out hbl)
            have HV6 := Lib.hid (HV5.out.below hbl)
            have HLN : Hid ((nflds kd ls ++ bflds (ls.take j)).length + 1 ≤ 1099511627776) := Lib.hid (by rw [List.length_append, nflds_len, bflds_len, List.length_take, HL.out]; omega)
            clear hbl hbk HI5 HF5 HB5 HV5
            go_wp2_with (at_builtin; go_loud (refine wpList_append_fld w1.heap.size rfl (.tmp 65) (.tmp 71) 27 39 rfl Try.underlying27 (by decide) info39 w1.heap.size (Nat.le_refl _) _ (nflds kd ls ++ bflds (ls.take j)) ⟨2, 0, l⟩ w5.heap.size 1 (.slice ad K vc) rfl HF6.out rfl (cell_blk HBK.out 0 rfl) (cell_blk HBK.out 1 rfl) (cell_blk HBK.out 2 rfl) HV6.out HLN.out HB6.out.size ?_))
            rintro v7 w7 hF7 hg7 hb7
            have HI7 := Lib.hid (HI6.out.apart HF6.out hg7)
            have HF7 : Hid (OwnF w1.heap.size w7 w1.heap.size 39 v7 (nflds kd ls ++ bflds (ls.take (j + 1)))) := by rw [bflds_take HLJ.out]; exact Lib.hid (by simpa only [List.append_assoc] using hF7)
            have HB7 := Lib.hid (HB6.out.trans hb7)
            clear hF7 hg7 hb7 HI6 HF6 HB6 HBK HLN hcr5 HV6
            go_wp2_with fail
            go_roundw
            case rel => exact ⟨j + 1, by omega, by simp, HI7, HF7, HB7⟩
            case measure => simp [intOf]; omega
          · have hjn : n = j := by omega
            subst hjn
            have hkt : ls.take n = ls := by rw [← HL.out, List.take_length]
            rw [hkt] at HF
            obtain ⟨F, hF⟩ : ∃ F, F = nflds kd ls ++ bflds ls := ⟨_, rfl⟩
            obtain ⟨w4, hw4⟩ : ∃ x, x = wr := ⟨_, rfl⟩
            rw [← hF] at HF
            rw [← hw4] at HI HF HBW ⊢
            have HFE := Lib.hid hF
            clear hw4 hkt hF
            have hbl : Below w4.heap.size w4 (w4.alloc (.cells #[.int .i64 3] 26)) := (Below.refl _ _).alloc (Nat.le_refl _) _
            have hbk := alloc_at w4 (.cells #[.int .i64 3] 26)
            have HBK := Lib.hid hbk
            have HI2 := Lib.hid (HI.out.below hbl)
            have HF2 := Lib.hid (HF.out.below hbl)
            have HB2 := Lib.hid (below_step HBW.out hbl)
            have HLN : Hid ((List.replicate n kd ++ List.replicate n 2).length + 1 ≤ 1099511627776) := Lib.hid (by rw [List.length_append, List.length_replicate, List.length_replicate]; omega)
            clear hbl hbk HI HF HBW
            go_wp2_with (at_builtin; go_loud (refine wpList_append_int rfl (.tmp 73) (.tmp 74) 25 rfl Try.underlying25 info26 w1.heap.size _ (List.replicate n kd ++ List.replicate n 2) 3 w4.heap.size 1 rfl HI2.out rfl (cell_blk HBK.out 0 rfl) HLN.out HB2.out.size ?_))
            rintro v5 w5 hI5 hg5 hb5
            have hF5 := HF2.out.apart HI2.out hg5 (Nat.le_refl _) HB2.out.size
            have HB5 := Lib.hid (HB2.out.trans hb5)
            obtain ⟨KS, hKS⟩ : ∃ KS, KS = List.replicate n kd ++ (List.replicate n 2 ++ [3]) := ⟨_, rfl⟩
            have hI5 : OwnI w5 w1.heap.size v5 KS := by rw [hKS]; simpa only [List.append_assoc] using hI5
            have HKSL : Hid (KS.length = nj + 1) := Lib.hid (by rw [hKS, HNJ.out]; simp; omega)
            obtain ⟨io5, ic5, hv5⟩ := hI5.form
            rw [HKSL.out] at hv5
            subst hv5
            have HI5 := Lib.hid hI5.ints
            have HF5 := Lib.hid hF5.fs
            have HKS := Lib.hid hKS
            clear hI5 hg5 hb5 hF5 hKS HI2 HF2 HB2 HBK HLN
            have HWL : Hid ((writeV F).length ≤ 20080) := by
              unfold Hid
              rw [HFE.out, writeV_app, List.length_append]
              have h1 := write_nflds_le HKD.out ls
              have h2 := write_bflds_le ls HS.out
              rw [HL.out] at h1 h2
              omega
            have HW := Lib.hid (write_any w1.heap.size fo nj fc F (by rw [HFE.out, List.length_append, nflds_len, bflds_len, HL.out, HNJ.out]) (by omega) (by have := HWL.out; omega) (by rw [HFE.out]; exact nflds_n HS.out) w5 HF5.out)
            go_wp2_with fail
            refine HW.out.mono ?_
            rintro e w6 ⟨v6, rfl, hO6, hb6⟩
            obtain ⟨X, hX⟩ : ∃ X, X = writeV F := ⟨_, rfl⟩
            rw [← hX] at hO6 HWL
            obtain ⟨so, sc, hv6, _, _⟩ := hO6.form3
            obtain ⟨xl, hxl⟩ : ∃ xl, xl = X.length := ⟨_, rfl⟩
            rw [← hxl] at hv6
            subst hv6
            have HXL := Lib.hid hxl
            have HXE := Lib.hid hX
            have HO6 := Lib.hid hO6
            have HB6 := Lib.hid (below_step HB5.out hb6)
            have HB56 := Lib.hid hb6; have HS5 : Hid (w1.heap.size ≤ w5.heap.size) := Lib.hid HB5.out.size
            have HRB6 := Lib.hid (HRB1.out.below HB6.out)
            have HLN : Hid (X.length + rest.length ≤ 140737488355328) := Lib.hid (by have := HWL.out; rw [HRL.out]; omega)
            have HSZ : Hid (w5.heap.size ≤ w6.heap.size) := Lib.hid hb6.size
            clear hO6 hb6 hX hxl HW HF5 HB5
            go_wp2_with (at_builtin; go_loud (refine wpList_append_bytes rfl (.tmp 77) (.tmp 78) 22 5 rfl Try.underlying22 info5 w5.heap.size _ X rest ra rn rc rfl HO6.out rfl HRL.out HRB6.out HRC.out HLN.out HSZ.out ?_))
            rintro v7 w7 hO7 hg7 hb7
            obtain ⟨Y, hY⟩ : ∃ Y, Y = X ++ rest := ⟨_, rfl⟩
            rw [← hY] at hO7
            obtain ⟨yo, yc, hv7, hyc, hyn⟩ := hO7.form3
            obtain ⟨N, hN⟩ : ∃ N, N = Y.length := ⟨_, rfl⟩
            rw [← hN] at hv7 hyc
            subst hv7
            have HNE : Hid (Y.length = N) := Lib.hid hN.symm
            have HYY := Lib.hid (hO7.bytes' hN.symm)
            have HB7 := Lib.hid (HB6.out.trans (hb7.mono HS5.out))
            have HI7 := Lib.hid (HI5.out.below (HB56.out.trans hb7))
            have hN2 : N ≤ 21080 := by rw [hN, hY, List.length_append, HRL.out]; have := HWL.out; omega
            have hycN : Hid (N ≤ yc) := Lib.hid hyc
            have HYN : Hid (yo = none → N = 0 ∧ yc = 0) := Lib.hid (fun h => ⟨by have := hyn h; omega, hyn h⟩)
            obtain ⟨R, hR⟩ : ∃ R, R = nflds kd ls ++ bflds ls ++ [⟨3, 0, rest⟩] := ⟨_, rfl⟩
            have HBACK : Hid (readV Y 0 KS = some (R, N)) := by
              have := back_law HKD.out ls rest HS.out
              rw [HL.out, ← HFE.out, ← HXE.out, ← hY, ← HKS.out, ← hN, HFE.out, ← hR] at this
              exact Lib.hid this
            have HRE := Lib.hid hR
            obtain ⟨M, hM⟩ : ∃ M, M = R.length := ⟨_, rfl⟩
            obtain ⟨u, hu⟩ : ∃ u, 2 * n = u := ⟨_, rfl⟩
            have hM2 : M = u + 1 := by rw [hM, hR, List.length_append, List.length_append, nflds_len, bflds_len, HL.out]; show n + n + 1 = _; omega
            have h2 : 2 * (n : Int) = (u : Int) := by omega
            have h3 : (u : Int) + 1 = (M : Int) := by omega
            have HM := Lib.hid hM; have HU := Lib.hid hu; have HM2 := Lib.hid hM2
            have hub : u ≤ 40 := by omega
            have HRD := Lib.hid (read_any yo N yc 0 io5 (nj + 1) ic5 Y KS HNE.out (by omega) hycN.out HYN.out HKSL.out (by omega) w7 HYY.out HI7.out)
            rw [HBACK.out] at HRD
            dsimp only at HRD
            clear hO7 hg7 hb7 hY hyc hyn hN hR hM hu hM2 HO6 HB6 HB56 HI5 HLN HSZ HXE HXL HKS HBACK HI7 HYY HWL
            go_wp2_with fail
            refine HRD.out.mono ?_
            rintro e w8 ⟨hb8, lv, rfl, hO8⟩
            obtain ⟨lo, lc, hlv, _, _⟩ := hO8.form
            rw [← HM.out] at hlv
            subst hlv
            have HF8 := Lib.hid hO8.fs
            have HB8 := Lib.hid (below_step HB7.out hb8)
            clear hO8 hb8 HRD HB7
            have HRB8 := Lib.hid (HRB1.out.below HB8.out)
            have HT8 := Lib.hid (HB1.out.trans (HB8.out.mono HB1.out.size))
            go_wp2_with fail
            go_loopw [16] (fun s16 wx => ∃ (j : Nat), j ≤ n ∧ s16 = .int .i64 j ∧ Hid (Below w8.heap.size w8 wx)) (fun i _ => n - (intOf i).toNat)
            case atStart => exact ⟨0, by omega, rfl, Lib.hid (Below.refl _ _)⟩
            case round =>
              obtain ⟨j, hj, rfl, HBW⟩ := hrel
              have HFw := Lib.hid (HF8.out.below HBW.out)
              have HRw := Lib.hid (HR1.out.below (HB8.out.trans (HBW.out.mono HB8.out.size)))
              by_cases hlt : j < n
              · obtain ⟨l, hlj⟩ : ∃ l, ls[j]? = some l := ⟨ls[j]'(by have := HL.out; omega), List.getElem?_eq_getElem _⟩
                have hab : a = some ⟨b, o, none⟩ := by
                  rcases HAD.out with h | h
                  · rw [h] at hlj; simp at hlj
                  · exact h
                subst hab
                have hlb : l.length ≤ 1000 := HS.out l (List.mem_of_getElem? hlj)
                obtain ⟨v, hc, hv⟩ := HRw.out j l hlj
                obtain ⟨ad, vc, rfl, _, _, hy⟩ := hv.bytes
                obtain ⟨t, ht⟩ : ∃ t, n + j = t := ⟨_, rfl⟩
                have e1 : R[j]? = some ⟨kd, l.length, []⟩ := by rw [HRE.out]; exact back_num hlj
                have e2 : R[t]? = some ⟨2, 0, l⟩ := by rw [HRE.out]; exact back_row hlj (by rw [HL.out]; exact ht)
                obtain ⟨g, rfl, _, p1, _⟩ := HFw.out j _ e1
                obtain ⟨g2, hg2, _, _, v2, q2, hv2⟩ := HFw.out t _ e2
                injection hg2 with hg2
                injection hg2 with hg2
                subst hg2
                obtain ⟨ad2, vc2, rfl, _, _, hy2⟩ := hv2.bytes
                have D1 : Hid (∀ d os, Calls Try.prog 11 #[.slice ad2 l.length vc2, .slice ad l.length vc] (grow (redrawn wr d) os) fun e w'' => e = .returned (.bool true) ∧ ∃ p : Regrown, w'' = grow (redrawn wr p.d) p.os) :=
                  Lib.hid (fun d os => Calls.regrown_of ((same_any ad2 ad _ _ vc2 vc l l _ rfl rfl (by omega) (by omega) (hy2.below (below_regrown wr d os)) (hy.below (below_regrown wr d os))).mono fun e w' h => ⟨by rw [h.1, decide_eq_true rfl], h.2⟩))
                have r0 := cell_regrown hc; have r1 := cell_regrown p1; have r2 := cell_regrown q2
                have i2 : (j : Int) < (n : Int) := by omega
                have i3 : (j : Int) < (M : Int) := by omega
                have i4 : (t : Int) < (M : Int) := by omega
                have i5 : (n : Int) + (j : Int) = (t : Int) := by omega
                dsimp only at r0 r1 r2 D1
                obtain ⟨K, hK⟩ : ∃ K, l.length = K := ⟨_, rfl⟩
                rw [hK] at D1 r0 r1 r2
                clear hlj hc hv hy ht e1 e2 p1 q2 hv2 hy2 hK hlb
                go_wp2_with fail
                refine wp_region_quiet_below (by kernel_rfl) (by kernel_rfl) ?_
                repeat (go_big_quiet_step (first | exact D1.out _ _))
                refine wpQuiet_nil ?_
                intro _ hw'
                obtain ⟨⟨dq, osq⟩, hw''⟩ := hw'
                obtain ⟨w9, hw9⟩ : ∃ w9, w9 = grow (redrawn wr dq) osq := ⟨_, rfl⟩
                rw [← hw9] at hw''
                have hb9 : Below wr.heap.size wr w9 := by rw [hw9]; exact below_regrown wr dq osq
                subst hw''
                have HB9 := Lib.hid (below_step HBW.out hb9)
                clear hw9 D1 r0 r1 r2 hb9 i3 i4 i5
                go_wp2_with fail
                go_roundw
                case rel => exact ⟨j + 1, by omega, by simp, HB9⟩
                case measure => simp [intOf]; omega
              · have hj2 : ¬ (j : Int) < (n : Int) := by omega
                have e3 : R[u]? = some ⟨3, 0, rest⟩ := by rw [HRE.out]; exact back_rest (by rw [HL.out]; exact HU.out)
                obtain ⟨g, rfl, _, _, v2, q2, hv2⟩ := HFw.out u _ e3
                obtain ⟨ad2, vc2, rfl, _, _, hy2⟩ := hv2.bytes
                have i4 : (u : Int) < (M : Int) := by omega
                have HY2 := Lib.hid hy2
                dsimp only at q2
                rw [HRL.out] at q2
                obtain ⟨w9, hw9⟩ : ∃ x, x = wr := ⟨_, rfl⟩
                have HRB9 := Lib.hid (HRB8.out.below HBW.out)
                have HB9 := Lib.hid (below_step HT8.out HBW.out)
                rw [← hw9] at q2 HY2 HRB9 HB9 ⊢
                clear e3 hv2 hy2 hw9 HFw HRw HBW
                go_wp2_with fail
                refine (same_any ad2 ra rn rn vc2 rc rest rest w9 HRL.out HRL.out (by omega) (by omega) HY2.out HRB9.out).mono ?_
                rw [decide_eq_true rfl]
                rintro e w10 ⟨rfl, hb10⟩
                go_wp2_with fail
                go_ret
                exact ⟨rfl, below_step HB9.out hb10⟩
end Go.Proofs.Ytgapahmjcladlaa
