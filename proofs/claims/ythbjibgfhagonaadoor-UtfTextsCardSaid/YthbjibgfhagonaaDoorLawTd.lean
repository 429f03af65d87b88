/- The walk of UtfTexts where the third byte is not that of the mark. -/
import Derived.Test.YthbjibgfhagonaaDoorLawTo
namespace Go.Proofs.YthbjibgfhagonaaDoor
open Go.RowKit
set_option linter.unusedVariables false

set_option maxHeartbeats 4000000 in
set_option maxRecDepth 100000 in
theorem texts_d (s : ByteArray) (w : World) (hn : s.size ≤ 2000) (hs3 : 3 ≤ s.size) (hz0 : (strB s)[0]? = some 239) (hz1 : (strB s)[1]? = some 187) (hz2 : (strB s)[2]? ≠ some 191) (hT : Tabs w) (hT2 : Tab2 w) :
    Calls Tryd.prog 5 #[.string s] w fun e w' => e = .returned (.bool true) ∧ Below w.heap.size w w' := by
  have HA := Lib.hid (alive_any w hT hT2)
  have HT := Lib.hid hT; have HT2 := Lib.hid hT2
  have HN1 : Hid (∀ w, Tabs w → Calls Tryd.prog 26 #[.string s] w fun e w' => e = .returned (.bool ((nameA (strB s)).2 && decide (strB s ≠ []))) ∧ Below w.heap.size w w') := fun w h => name_any s w (by omega) h
  have HN2 : Hid (∀ w, Calls Tryd.prog 27 #[.string s] w fun e w' => e = .returned (.bool ((nameA (strB s)).2 && decide (strB s ≠ []))) ∧ Below w.heap.size w w') := fun w => refName_any s w (by omega)
  generalize ((nameA (strB s)).2 && decide (strB s ≠ [])) = NM at HN1 HN2
  have q9 : ∀ w, (convert 9 24 (.string s)).run Tryd.prog w = .ok (.slice (some ⟨w.heap.size, 0, none⟩) s.size (grownCap w s.size 0 5))
      (w.drew.alloc (.cells (bytesRow s (grownCap w s.size 0 5)) 5 ((bytesRow s (grownCap w s.size 0 5)).size, (bytesRow s (grownCap w s.size 0 5)).size + 1))) := fun w => run_bytes_of_string w 9 24 5 s Tryd.underlying9 Tryd.underlying24 Tryd.underlying5
  clear hT hT2
  obtain ⟨bs, hbs⟩ : ∃ bs, bs = strB s := ⟨_, rfl⟩
  have hl : bs.length = s.size := by rw [hbs]; exact strB_len s
  have HL := Lib.hid hl
  have HLB : Hid ((linesB bs).length ≤ 2000) := by
    have h1 := repAll_le (old := [13, 10]) (c := 10) (s := bs) (by simp)
    have h2 := repAll_le (old := [13]) (c := 10) (s := repAll [13, 10] 10 bs) (by simp)
    have h3 : (linesB bs).length ≤ bs.length := Nat.le_trans h2 h1
    unfold Hid; omega
  have SLE : Hid ((stripB bs).length ≤ 2000) := by
    unfold Hid stripB trimB
    split
    · rw [List.length_drop]; omega
    · omega
  have HBS := Lib.hid hbs
  clear hl hbs
  go_enter Tryd.func5, Tryd.ntmps5
  go_wp2_with fail
  refine HA.out.mono ?_
  rintro e w1 ⟨rfl, hb1⟩
  have hgr := grownCap_ge w1 s.size 0 5
  obtain ⟨W1, hW1⟩ : ∃ W1, W1 = (w1.drew.alloc (.cells (bytesRow s (grownCap w1 s.size 0 5)) 5 ((bytesRow s (grownCap w1 s.size 0 5)).size, (bytesRow s (grownCap w1 s.size 0 5)).size + 1))) := ⟨_, rfl⟩
  have hB : Bytes (w1.drew.alloc (.cells (bytesRow s (grownCap w1 s.size 0 5)) 5 ((bytesRow s (grownCap w1 s.size 0 5)).size, (bytesRow s (grownCap w1 s.size 0 5)).size + 1))) (some ⟨w1.heap.size, 0, none⟩) (strB s) := bytes_of_row w1.drew s _ _
  have hb2 : Below w.heap.size w (w1.drew.alloc (.cells (bytesRow s (grownCap w1 s.size 0 5)) 5 ((bytesRow s (grownCap w1 s.size 0 5)).size, (bytesRow s (grownCap w1 s.size 0 5)).size + 1))) := (Below.drew hb1).alloc hb1.size _
  have q10 : (convert 9 24 (.string s)).run Tryd.prog w1 = .ok (.slice (some ⟨w1.heap.size, 0, none⟩) s.size (grownCap w1 s.size 0 5)) W1 := by rw [hW1]; exact q9 w1
  rw [← hW1, ← HBS.out] at hB
  rw [← hW1] at hb2
  have O1 := Lib.hid hB; have B1 := Lib.hid hb2
  clear hW1 hb1 hb2 hB q9 HA
  generalize grownCap w1 s.size 0 5 = cap at q10 hgr
  obtain ⟨g, hg⟩ : ∃ g, g = w1.heap.size := ⟨_, rfl⟩
  rw [← hg] at q10 O1
  clear hg
  obtain ⟨n, hsz⟩ : ∃ n, n = s.size := ⟨_, rfl⟩
  have eS : s.size = n := hsz.symm
  rw [eS] at q10 hgr hn
  have HL : Hid (bs.length = n) := by rw [hsz]; exact HL
  have hcap : n ≤ cap := hgr
  clear hsz hgr
  have h3 : ¬ n < 3 := by omega
  obtain ⟨c0, hc0⟩ := at_some (us := bs) (k := 0) (by rw [HL.out]; omega)
  obtain ⟨c1, hc1⟩ := at_some (us := bs) (k := 1) (by rw [HL.out]; omega)
  obtain ⟨c2, hc2⟩ := at_some (us := bs) (k := 2) (by rw [HL.out]; omega)
  have O1c : ∀ i c, bs[i]? = some c → W1.cell? ⟨g, i, none⟩ = some (.int .u8 (byt c)) := fun i c h => by
    rcases O1.out with h0 | ⟨b', o', h1, h2⟩
    · rw [h0] at h; simp at h
    · cases h1
      have := h2 i c h
      rwa [Nat.zero_add] at this
  have d0 := O1c 0 c0 hc0
  have d1 := O1c 1 c1 hc1
  have d2 := O1c 2 c2 hc2
  have hyes : [239, 187, 191].isPrefixOf bs = true → c0 = 239 ∧ c1 = 187 ∧ c2 = 191 := fun h => by
    obtain ⟨t, ht⟩ := List.isPrefixOf_iff_prefix.1 h
    rw [← ht] at hc0 hc1 hc2
    exact ⟨(Option.some.inj hc0).symm, (Option.some.inj hc1).symm, (Option.some.inj hc2).symm⟩
  have HY := Lib.hid hyes
  have HC0 := Lib.hid hc0; have HC1 := Lib.hid hc1; have HC2 := Lib.hid hc2
  have O1C := Lib.hid O1c
  clear O1c hyes hc0 hc1 hc2
  have g0 : c0 = 239 := by have := hz0; rw [← HBS.out, HC0.out] at this; exact Option.some.inj this
  have g1 : c1 = 187 := by have := hz1; rw [← HBS.out, HC1.out] at this; exact Option.some.inj this
  have g2 : ¬ c2 = 191 := by intro h; apply hz2; rw [← HBS.out, HC2.out, h]
  have e0 : (byt c0 == 239) = true := by rw [g0]; rfl
  have e1 : (byt c1 == 187) = true := by rw [g1]; rfl
  have e2 : (byt c2 == 191) = false := by rw [show (191 : Int) = ((191 : Nat) : Int) from rfl, byt_eq (c := c2) (n := 191) 191 rfl, decide_eq_false g2]
  have hst : Hid (stripB bs = bs) := strip_no (fun h => g2 (HY.out h).2.2)
  clear g0 g1 g2 hs3 hz0 hz1 hz2
  go_wp2_with fail
  refine (HN1.out W1 (HT.out.below HT.out.size B1.out)).mono ?_
  rintro e x1 ⟨rfl, h1⟩
  have B2 := Lib.hid (B1.out.trans (h1.mono B1.out.size)); have O2 := Lib.hid (O1.out.below h1); have V2 := Lib.hid (Bytes.below (bs := stripB bs) (a := some ⟨g, 0, none⟩) (by rw [hst.out]; exact O1.out) h1)
  clear h1
  go_wp2_with fail
  refine (HN2.out x1).mono ?_
  rintro e x2 ⟨rfl, h2⟩
  have B3 := Lib.hid (B2.out.trans (h2.mono B2.out.size)); have O3 := Lib.hid (O2.out.below h2); have V3 := Lib.hid (V2.out.below h2)
  clear h2 B2 O2 V2
  go_wp2_with fail
  refine (lines_any (some ⟨g, 0, none⟩) n cap bs x2 HL.out (by omega) hcap (fun h => by simp at h) O3.out (HT2.out.below B3.out)).mono ?_
  rintro e x3 ⟨v, rfl, ⟨la, ln, lc, rfl, ll, lcap, lnil, lby⟩, h3⟩
  have B4 := Lib.hid (B3.out.trans (h3.mono B3.out.size)); have O4 := Lib.hid (O3.out.below h3); have V4 := Lib.hid (V3.out.below h3)
  have LL := Lib.hid ll; have LB := Lib.hid lby
  clear h3 B3 O3 V3 ll lby lnil
  go_wp2_with fail
  refine (refLines_any (some ⟨g, 0, none⟩) n cap bs x3 HL.out (by omega) O4.out).mono ?_
  rintro e x4 ⟨v, rfl, ⟨ra, rn, rc, rfl, rl, rcap, rnil, rby⟩, h4⟩
  have B5 := Lib.hid (B4.out.trans (h4.mono B4.out.size)); have O5 := Lib.hid (O4.out.below h4); have V5 := Lib.hid (V4.out.below h4)
  have LB5 := Lib.hid (LB.out.below h4)
  have RL := Lib.hid rl; have RB := Lib.hid rby
  have hlb := HLB.out
  have hl1 : ln ≤ 2000 := by have := LL.out; omega
  have hr1 : rn ≤ 2000 := by have := RL.out; omega
  clear h4 B4 O4 V4 rl rby rnil LB hlb
  go_wp2_with fail
  refine (same_any la ra ln rn lc rc (linesB bs) (linesB bs) x4 LL.out RL.out (by omega) (by omega) LB5.out RB.out).mono ?_
  rw [decide_eq_true rfl]
  rintro e x5 ⟨rfl, h5⟩
  have B6 := Lib.hid (B5.out.trans (h5.mono B5.out.size)); have O6 := Lib.hid (O5.out.below h5); have V6 := Lib.hid (V5.out.below h5)
  clear h5 B5 O5 V5
  go_wp2_with fail
  refine (strip_any (some ⟨g, 0, none⟩) n cap bs x5 HL.out (by omega) hcap (fun h => by simp at h) O6.out).mono ?_
  rintro e x6 ⟨v, rfl, hv, h6⟩
  have B7 := Lib.hid (B6.out.trans (h6.mono B6.out.size)); have V7 := Lib.hid (V6.out.below h6)
  obtain ⟨sa, sn, sc, rfl, sl, scap, snil, sby⟩ := hv.isB
  have SL := Lib.hid sl; have SB := Lib.hid sby
  have hs1 : sn ≤ 2000 := by have := SL.out; have := SLE.out; omega
  clear h6 B6 O6 V6 hv sl sby snil
  go_wp2_with fail
  refine (same_any sa (some ⟨g, 0, none⟩) sn (n) sc (cap) (stripB bs) (stripB bs) x6 SL.out (by rw [hst.out]; exact HL.out) (by omega) (by omega) SB.out V7.out).mono ?_
  rw [decide_eq_true rfl]
  rintro e x7 ⟨rfl, h7⟩
  go_wp2_with fail
  go_ret
  exact ⟨rfl, B7.out.trans (h7.mono B7.out.size)⟩

end Go.Proofs.YthbjibgfhagonaaDoor
