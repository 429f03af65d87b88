/- The reference's Name: what the call computes, for every text. -/
import Derived.Test.YthbjibgfhagonaaDoorRefD
namespace Go.Proofs.YthbjibgfhagonaaDoor
open Go.RowKit
set_option linter.unusedVariables false

theorem go_begin {v : Int} (h : beginP v = true) : goP v = true := by rw [go_eq, h]; rfl

set_option maxHeartbeats 2000000 in
set_option maxRecDepth 100000 in
theorem refName_any (s : ByteArray) (w : World) (hn : s.size ≤ 1000000) :
    Calls Tryd.prog 27 #[.string s] w fun e w' => e = .returned (.bool ((nameA (strB s)).2 && decide (strB s ≠ []))) ∧ Below w.heap.size w w' := by
  have q9 : ∀ w, (convert 9 24 (.string s)).run Tryd.prog w = .ok (.slice (some ⟨w.heap.size, 0, none⟩) s.size (grownCap w s.size 0 5))
      (w.drew.alloc (.cells (bytesRow s (grownCap w s.size 0 5)) 5 ((bytesRow s (grownCap w s.size 0 5)).size, (bytesRow s (grownCap w s.size 0 5)).size + 1))) := fun w => run_bytes_of_string w 9 24 5 s Tryd.underlying9 Tryd.underlying24 Tryd.underlying5
  have hb0 : Below w.heap.size w (w.drew.alloc (.cells (bytesRow s (grownCap w s.size 0 5)) 5 ((bytesRow s (grownCap w s.size 0 5)).size, (bytesRow s (grownCap w s.size 0 5)).size + 1))) := (Below.drew (Below.refl _ _)).alloc (Nat.le_refl _) _
  have hB : Bytes (w.drew.alloc (.cells (bytesRow s (grownCap w s.size 0 5)) 5 ((bytesRow s (grownCap w s.size 0 5)).size, (bytesRow s (grownCap w s.size 0 5)).size + 1))) (some ⟨w.heap.size, 0, none⟩) (strB s) := bytes_of_row w.drew s (grownCap w s.size 0 5) ((bytesRow s (grownCap w s.size 0 5)).size, (bytesRow s (grownCap w s.size 0 5)).size + 1)
  have HB0 := Lib.hid hb0; have HB := Lib.hid hB
  obtain ⟨bs, hbs⟩ : ∃ bs, bs = strB s := ⟨_, rfl⟩
  have hl : bs.length = s.size := by rw [hbs]; exact strB_len s
  rw [← hbs] at HB
  have HL := Lib.hid hl
  obtain ⟨res, hres⟩ : ∃ res, res = ((nameA (strB s)).2 && decide (strB s ≠ [])) := ⟨_, rfl⟩
  rw [← hres]
  obtain ⟨al, hal⟩ : ∃ al, al = nameA bs := ⟨_, rfl⟩
  have HR : Hid (res = (al.2 && !s.toList.isEmpty)) := by
    unfold Hid
    rw [hres, hal, hbs, Go.ByteArray.toList_eq]
    show _ = ((nameA (strB s)).2 && !(strB s).isEmpty)
    cases strB s <;> simp
  have H0 : Hid (allP nameSo bs (s.size + 1) 0 = al) := by rw [hal, ← hl]; exact Lib.hid rfl
  clear hb0 hB hbs hl hres hal
  obtain ⟨cp, hcp⟩ : ∃ cp, cp = grownCap w s.size 0 5 := ⟨_, rfl⟩
  go_enter Tryd.func27, Tryd.ntmps27
  go_wp2
  obtain ⟨W1, hW1⟩ : ∃ W1, W1 = (w.drew.alloc (.cells (bytesRow s (grownCap w s.size 0 5)) 5 ((bytesRow s (grownCap w s.size 0 5)).size, (bytesRow s (grownCap w s.size 0 5)).size + 1))) := ⟨_, rfl⟩
  change Code.wp _ _ _ _ (w.drew.alloc _)
  rw [← hW1] at HB HB0 ⊢
  clear hW1 hcp q9
  generalize grownCap w s.size 0 5 = cap
  obtain ⟨n, hsz⟩ : ∃ n, n = s.size := ⟨_, rfl⟩
  rw [← hsz] at HL H0 hn ⊢
  clear hsz
  obtain ⟨g, hg⟩ : ∃ g, g = w.heap.size := ⟨_, rfl⟩
  rw [← hg] at HB ⊢
  clear hg
  go_loopw [4] (fun i wr => ∃ k f : Nat, k ≤ n ∧ i = .int .i64 k ∧ n < k + f ∧ Hid (allP nameSo bs f k = al) ∧ Below w.heap.size w wr ∧ Hid (Bytes wr (some ⟨g, 0, none⟩) bs)) (fun i _ => n - (intOf i).toNat)
  case atStart => exact ⟨0, n + 1, by omega, rfl, by omega, H0, HB0.out, HB⟩
  case round =>
    clear H0 HB0 HB
    obtain ⟨k, f, hk, rfl, hf, hA, hbw, HB⟩ := hrel
    obtain ⟨f, rfl⟩ : ∃ g, f = g + 1 := ⟨f - 1, by omega⟩
    by_cases hlt : k < n
    · have hbd := nextP_bound bs k (by rw [HL.out]; exact hlt)
      rw [HL.out] at hbd
      have hA' := hA.out
      rw [allP, if_neg (by rw [HL.out]; omega)] at hA'
      have hN := refNext_any (some ⟨g, 0, none⟩) n cap k bs wr HL.out hn HB.out
      generalize nextP bs k = d at hbd hA' hN
      obtain ⟨R, K⟩ := d
      simp only at hbd hA' hN
      obtain ⟨hb1, hb2⟩ := hbd
      have HN := Lib.hid hN
      have HBG := Lib.hid (fun w => refBegins_any R w); have HGO := Lib.hid (fun w => refGoes_any R w)
      clear hN hA
      by_cases hK : K = 0
      · rw [if_pos hK] at hA'
        have HF : Hid (res = false) := by unfold Hid; rw [HR.out, ← hA']; rfl
        subst hK
        clear hA' HR
        go_wp2_with (go_at_call 14; refine HN.out.mono ?_; rintro e w1 ⟨rfl, hbn⟩)
        go_ret
        exact ⟨by rw [HF.out]; rfl, hbw.trans (hbn.mono hbw.size)⟩
      · rw [if_neg hK] at hA'
        have hK1 : 1 ≤ K := by omega
        have hK2 : (K == 0) = false := beq_eq_false_iff_ne.2 hK
        by_cases hk0 : k = 0
        · have ek : ((k : Int) == 0) = true := by rw [beq_iff_eq]; omega
          cases hC : beginP R with
          | false =>
            have hso : nameSo R k = false := by unfold nameSo; rw [hC, hk0]; rfl
            rw [if_pos hso] at hA'
            have HF : Hid (res = false) := by unfold Hid; rw [HR.out, ← hA']; rfl
            have HC := Lib.hid hC
            clear hA' hK hC hso HR hk0
            go_wp2_with (first | (go_at_call 14; refine HN.out.mono ?_; rintro e w1 ⟨rfl, hbn⟩) | (go_at_call 23; refine (HBG.out _).mono ?_; rw [HC.out]; rintro e w2 ⟨rfl, hbm⟩))
            go_ret
            have b1 := hbw.trans (hbn.mono hbw.size)
            exact ⟨by rw [HF.out]; rfl, b1.trans (hbm.mono b1.size)⟩
          | true =>
            have hso : nameSo R k = true := by unfold nameSo; rw [hC]; rfl
            rw [if_neg (by rw [hso]; simp)] at hA'
            have HA := Lib.hid hA'; have HC := Lib.hid hC; have HC2 := Lib.hid (go_begin hC)
            clear hA' hK hC hso hk0
            go_wp2_with (first | (go_at_call 14; refine HN.out.mono ?_; rintro e w1 ⟨rfl, hbn⟩) | (go_at_call 23; refine (HBG.out _).mono ?_; rw [HC.out]; rintro e w2 ⟨rfl, hbm⟩) | (go_at_call 25; refine (HGO.out _).mono ?_; rw [HC2.out]; rintro e w3 ⟨rfl, hbo⟩))
            have b1 := hbw.trans (hbn.mono hbw.size)
            have b2 := b1.trans (hbm.mono b1.size)
            have b3 := b2.trans (hbo.mono b2.size)
            go_roundw
            case rel => exact ⟨k + K.toNat, f, by omega, by congr 1; omega, by omega, HA, b3, Lib.hid (((HB.out.below hbn).below hbm).below hbo)⟩
            case measure => simp [intOf]; omega
        · have ek : ((k : Int) == 0) = false := by rw [beq_eq_false_iff_ne]; omega
          cases hC : goP R with
          | false =>
            have hso : nameSo R k = false := by
              unfold nameSo
              cases hb : beginP R with
              | true => rw [go_begin hb] at hC; cases hC
              | false => rw [hC]; simp
            rw [if_pos hso] at hA'
            have HF : Hid (res = false) := by unfold Hid; rw [HR.out, ← hA']; rfl
            have HC := Lib.hid hC
            clear hA' hK hC hso HR hk0
            go_wp2_with (first | (go_at_call 14; refine HN.out.mono ?_; rintro e w1 ⟨rfl, hbn⟩) | (go_at_call 25; refine (HGO.out _).mono ?_; rw [HC.out]; rintro e w3 ⟨rfl, hbo⟩))
            go_ret
            have b1 := hbw.trans (hbn.mono hbw.size)
            exact ⟨by rw [HF.out]; rfl, b1.trans (hbo.mono b1.size)⟩
          | true =>
            have hso : nameSo R k = true := by unfold nameSo; rw [hC, decide_eq_true (by omega : (0 : Int) < (k : Int))]; simp
            rw [if_neg (by rw [hso]; simp)] at hA'
            have HA := Lib.hid hA'; have HC := Lib.hid hC
            clear hA' hK hC hso hk0
            go_wp2_with (first | (go_at_call 14; refine HN.out.mono ?_; rintro e w1 ⟨rfl, hbn⟩) | (go_at_call 25; refine (HGO.out _).mono ?_; rw [HC.out]; rintro e w3 ⟨rfl, hbo⟩))
            have b1 := hbw.trans (hbn.mono hbw.size)
            have b2 := b1.trans (hbo.mono b1.size)
            go_roundw
            case rel => exact ⟨k + K.toNat, f, by omega, by congr 1; omega, by omega, HA, b2, Lib.hid ((HB.out.below hbn).below hbo)⟩
            case measure => simp [intOf]; omega
    · have hA' := hA.out
      rw [allP, if_pos (by rw [HL.out]; omega)] at hA'
      have HF : Hid (res = !s.toList.isEmpty) := by unfold Hid; rw [HR.out, ← hA']; rfl
      clear hA hA' HR
      go_wp2
      go_ret
      exact ⟨by rw [HF.out]; rfl, hbw⟩
end Go.Proofs.YthbjibgfhagonaaDoor
