/- The walk of UtfBack: it returns true for all lists of signs. -/
import Derived.Test.YthbjibgfhagonaaDoorLawC
namespace Go.Proofs.YthbjibgfhagonaaDoor
open Go.RowKit
set_option linter.unusedVariables false

def rval (r : Int) : Value := .int .i32 r
theorem info21 : (Tryd.prog.info? 21).map (fun i => (i.zero, i.size, i.bytes)) = some (some (.int .i32 0), 1, 4) := by kernel_rfl

theorem allP_all : ∀ (l : List Int) (pre : List UInt8) (f : Nat), (∀ r ∈ l, Lib.validRune r = true) → l.length ≤ f → (allP (fun r _ => charP r) (pre ++ flat l) f pre.length).2 = l.all charP
  | [], pre, f, _, _ => by rw [flat_nil, List.append_nil, allP_end _ _ _ _ (Nat.le_refl _)]; rfl
  | r :: l, pre, f, hv, hf => by
    have hv1 := hv r (List.mem_cons_self ..)
    have hl := encB_len r
    have hd : (pre ++ flat (r :: l)).drop pre.length = encB r ++ flat l := by rw [List.drop_left, flat_cons]
    have hn := next_full hv1 hd
    obtain ⟨f, rfl⟩ : ∃ g, f = g + 1 := ⟨f - 1, by simp at hf; omega⟩
    rw [allP, hn]
    simp only
    rw [if_neg (by rw [flat_cons]; simp only [List.length_append]; omega), if_neg (by omega), Int.toNat_natCast]
    have ih := allP_all l (pre ++ encB r) f (fun r h => hv r (List.mem_cons_of_mem _ h)) (by simp at hf; omega)
    cases hc : charP r with
    | false => rw [if_pos rfl, List.all_cons, hc]; rfl
    | true =>
      rw [if_neg (by simp), List.all_cons, hc, Bool.true_and, ← ih, flat_cons, List.append_assoc, List.length_append]
theorem check_all (l : List Int) (hv : ∀ r ∈ l, Lib.validRune r = true) : (checkP (flat l)).2 = l.all charP := by
  have := allP_all l [] ((flat l).length + 1) hv (by have := flat_len l; omega)
  simpa [checkP] using this

theorem back_long (a : Option Addr) (n cap : Nat) (w : World) (hn : 300 < n) (hn2 : n ≤ 9223372036854775807) (hT : Tabs w) (hT2 : Tab2 w) :
    Calls Tryd.prog 6 #[.slice a n cap] w fun e w' => e = .returned (.bool true) ∧ Below w.heap.size w w' := by
  have HA := Lib.hid (alive_any w hT hT2)
  clear hT hT2
  go_enter Tryd.func6, Tryd.ntmps6
  go_wp2_with (go_at_call 8; refine HA.out.mono ?_; rintro e w1 ⟨rfl, hb1⟩)
  go_ret
  exact ⟨rfl, hb1⟩

set_option maxHeartbeats 2000000 in
set_option maxRecDepth 100000 in
theorem back_walk (a : Option Addr) (n cap : Nat) (rs : List Int) (w : World) (hl : rs.length = n) (hn : n ≤ 300) (hr : ∀ (i : Nat) r, rs[i]? = some r → -2147483648 ≤ r ∧ r ≤ 2147483647)
    (hb : Runes w a rs) (hT : Tabs w) (hT2 : Tab2 w) :
    Calls Tryd.prog 6 #[.slice a n cap] w fun e w' => e = .returned (.bool true) ∧ Below w.heap.size w w' := by
  have HA := Lib.hid (alive_any w hT hT2)
  have HL := Lib.hid hl; have HR := Lib.hid hr; have HB := Lib.hid hb; have HT := Lib.hid hT
  clear hl hr hb hT hT2
  go_enter Tryd.func6, Tryd.ntmps6
  go_wp2_with (go_at_call 8; refine HA.out.mono ?_; rintro e w1 ⟨rfl, hb1⟩)
  have b1 := hb1.alloc hb1.size (.cells #[] 5)
  have b2 := b1.alloc b1.size (.cells #[] 21)
  have hO0 : Own1 ((w1.alloc (.cells #[] 5)).alloc (.cells #[] 21)) w.heap.size 21 (.slice (some ⟨w1.heap.size + 1, 0, none⟩) 0 0) (([] : List Int).map rval) := by
    have := World.ownsRow_lit (e := 21) (size := 1) (w1.alloc (.cells #[] 5)) #[] 0 b1.size (by unfold maxLen; omega) rfl
    rw [World.size_alloc] at this
    exact this
  have HO0 := Lib.hid hO0; have HB2 := Lib.hid b2
  clear hO0 b1 b2 hb1 HA
  go_loopw [3, 4, 5, 6, 7, 8] (fun bv sv al iv c8 c9 wr => ∃ (k : Nat) (L : List Int) (ab so : Option Addr) (nb cb ns sc : Nat) (alb : Bool), bv = .slice ab nb cb ∧ sv = .slice so ns sc ∧ al = .bool alb ∧ iv = .int .i64 k ∧ k ≤ n ∧ Hid (L = (rs.take k).filter Lib.validRune) ∧ Hid ((flat L).length = nb) ∧ Hid (L.length = ns) ∧ nb ≤ 4 * k ∧ ns ≤ k ∧ nb ≤ cb ∧
      Hid (ab = none → nb = 0 ∧ cb = 0) ∧ Hid (Bytes wr ab (flat L)) ∧ Hid (Own1 wr w.heap.size 21 (.slice so ns sc) (L.map rval)) ∧ Hid (alb = L.all charP) ∧ Below w.heap.size w wr) (fun _ _ _ iv _ _ _ => n - (intOf iv).toNat)
  case atStart =>
    exact ⟨0, [], _, _, 0, 0, 0, 0, true, rfl, rfl, rfl, rfl, by omega, Lib.hid rfl, Lib.hid rfl, Lib.hid rfl, by omega, by omega, by omega, Lib.hid (fun h => by simp at h), Lib.hid (.inl rfl), HO0, Lib.hid rfl, HB2.out⟩
  case round =>
    clear HO0 HB2
    obtain ⟨k, L, ab, so, nb, cb, ns, sc, alb, rfl, rfl, rfl, rfl, hk, HLL, HNB, HNS, h4, h5, hcb, HNIL, HBY, HOW, HAL, hbw⟩ := hrel
    by_cases hlt : k < n
    · obtain ⟨r, hrk⟩ : ∃ r, rs[k]? = some r := ⟨rs[k]'(by rw [HL.out]; exact hlt), by simp [HL.out, hlt]⟩
      rcases HB.out with h0 | ⟨b, o, rfl, hbc⟩
      · rw [h0] at hrk; simp at hrk
      have HBC := Lib.hid (hbc k r hrk)
      clear hbc
      have hcell : wr.cell? ⟨b, o + k, none⟩ = some (.int .i32 r) := by
        rw [hbw.cell (block_lt_of_cell HBC.out)]; exact HBC.out
      obtain ⟨hr0, hr1⟩ := HR.out k r hrk
      have hfs := filter_snoc hrk Lib.validRune
      rw [← HLL.out] at hfs
      have hP := put_any ab nb cb (flat L) r wr HNB.out (by omega) HNIL.out hr0 hr1 HBY.out
      clear hrk
      cases hp : Lib.validRune r with
      | false =>
        rw [hp] at hfs hP
        have HFS : Hid (L = (rs.take (k + 1)).filter Lib.validRune) := by rw [hfs]; exact Lib.hid (by simp)
        have hput : putB (flat L) r = flat L := by unfold putB; rw [hp]; rfl
        rw [hput] at hP
        have HPUT := Lib.hid hP
        clear hfs hp hP hput
        go_wp2_with (go_at_call 10; refine HPUT.out.mono ?_; rintro e w2 ⟨v, rfl, hv, hb2⟩; obtain ⟨ab', nb', cb', rfl, hl4, hc4, hnil4, hby4⟩ := hv.isB; obtain rfl : nb = nb' := by rw [← HNB.out, hl4])
        have HNIL4 := Lib.hid hnil4; have HBY4 := Lib.hid hby4
        clear hv hl4 hnil4 hby4 HNIL HBY
        go_roundw
        case rel => exact ⟨k + 1, L, ab', so, nb, cb', ns, sc, alb, rfl, rfl, rfl, by simp, by omega, HFS, HNB, HNS, by omega, by omega, hc4, HNIL4, HBY4, Lib.hid (HOW.out.below hb2), HAL, hbw.trans (hb2.mono hbw.size)⟩
        case measure => simp [intOf]; omega
      | true =>
        rw [hp] at hfs hP
        have HFS : Hid (L ++ [r] = (rs.take (k + 1)).filter Lib.validRune) := by rw [hfs]; exact Lib.hid (by simp)
        have hput : putB (flat L) r = flat (L ++ [r]) := by unfold putB; rw [hp, flat_snoc]; rfl
        rw [hput] at hP
        have HPUT := Lib.hid hP
        have HLT := Lib.hid HOW.out.lt
        clear hfs hp hP hput
        have tok1 : True := trivial
        go_wp2_with (first
          | (go_at_call 10; refine HPUT.out.mono ?_; rintro e w2 ⟨v, rfl, hv, hb2⟩; obtain ⟨ab', nb', cb', rfl, hl4, hc4, hnil4, hby4⟩ := hv.isB; have hcell2 := cell_at hb2 hcell)
          | (at_builtin; clear tok1; refine wpList_append_one rfl (.tmp 38) (.tmp 43) 22 21 rfl Tryd.underlying22 (.int .i32 0) 4 info21 rfl (by omega) w.heap.size (.slice so ns sc) (L.map rval) (rval r) ⟨w2.heap.size, 0, none⟩ 1 1 (by go_simp) ?c1 (by go_simp) rfl ?c2 rfl ?c3 ?c4 ?_))
        case c1 => exact (HOW.out.below hb2).below ((Below.refl _ _).alloc (Nat.le_refl _) _)
        case c2 => rw [plain_add, World.cell?_alloc_mark]; rfl
        case c3 => rw [List.length_map, HNS.out]; omega
        case c4 => rw [World.size_alloc]; have := hbw.size; have := hb2.size; omega
        have HV4 := Lib.hid (own_block hv)
        have HL4 := Lib.hid hl4; have HNIL4 := Lib.hid hnil4; have HBY4 := Lib.hid hby4
        have hle4 : nb' ≤ nb + 4 := by
          have := encB_len r
          rw [flat_snoc, List.length_append, HNB.out] at hl4; omega
        have hbw2 := hbw.trans (hb2.mono hbw.size)
        clear hv hl4 hnil4 hby4 HBY HNIL HOW hcell hcell2
        intro v' w3 hO3 hg3 hb3 hv3
        have hg2 := (Below.refl w2.heap.size w2).alloc (Nat.le_refl _) (.cells #[rval r] 21)
        have hbw3 : Below w.heap.size w w3 := (hbw2.alloc hbw2.size (.cells #[rval r] 21)).trans hb3
        have hcell3 : w3.cell? ⟨b, o + k, none⟩ = some (.int .i32 r) := by
          rw [hbw3.cell (block_lt_of_cell HBC.out)]; exact HBC.out
        have HBY3 : Hid (Bytes w3 ab' (flat (L ++ [r]))) := (HBY4.out.below hg2).grown hg3 (fun b' o' h1 h2 => by
          have h3 := HLT.out b' h2
          have h4 := HV4.out b' (by rw [h1]; rfl)
          omega)
        have hS3 : L.map rval ++ [rval r] = (L ++ [r]).map rval := by rw [List.map_append]; rfl
        have hns3 : (L.map rval ++ [rval r]).length = ns + 1 := by rw [List.length_append, List.length_map, HNS.out]; rfl
        obtain ⟨so', sc', hv⟩ := hO3.form
        rw [hns3] at hv
        subst hv
        rw [hS3] at hO3
        have HO3 := Lib.hid hO3; have HBW3 := Lib.hid hbw3
        have HNS3 : Hid ((L ++ [r]).length = ns + 1) := by unfold Hid; rw [← HNS.out]; simp
        have HC := Lib.hid (char_any r w3)
        clear hO3 hg2 hS3 hns3 hg3 hv3 hb3 hbw3 hbw2 hbw HBY4 hb2
        cases alb with
        | true =>
          have HAL3 : Hid (charP r = (L ++ [r]).all charP) := by unfold Hid; rw [List.all_append, ← HAL.out]; simp
          go_wp2_with (go_at_call 9; refine HC.out.mono ?_; rintro e w4 ⟨rfl, hb4⟩)
          go_roundw
          case rel => exact ⟨k + 1, L ++ [r], ab', so', nb', cb', ns + 1, sc', charP r, rfl, rfl, rfl, by simp, by omega, HFS, HL4, HNS3, by omega, by omega, hc4, HNIL4, Lib.hid (HBY3.out.below hb4), Lib.hid (HO3.out.below hb4), HAL3, HBW3.out.trans (hb4.mono HBW3.out.size)⟩
          case measure => simp [intOf]; omega
        | false =>
          have HAL3 : Hid (false = (L ++ [r]).all charP) := by unfold Hid; rw [List.all_append, ← HAL.out]; simp
          go_wp2
          go_roundw
          case rel => exact ⟨k + 1, L ++ [r], ab', so', nb', cb', ns + 1, sc', false, rfl, rfl, rfl, by simp, by omega, HFS, HL4, HNS3, by omega, by omega, hc4, HNIL4, HBY3, HO3, HAL3, HBW3.out⟩
          case measure => simp [intOf]; omega
    · have hns : ns ≤ 300 := by omega
      have hnb : nb ≤ 1200 := by omega
      have HVL : Hid (∀ r ∈ L, Lib.validRune r = true) := fun r h => by rw [HLL.out] at h; exact (List.mem_filter.1 h).2
      have HBW := Lib.hid hbw
      clear hk h4 h5 hbw HLL
      obtain ⟨W2, rfl⟩ : ∃ x, x = wr := ⟨_, rfl⟩
      go_wp2
      go_loopw [9, 10, 11, 12] (fun av iv c11 c12 wr2 => ∃ (i p : Nat), av = .int .i64 p ∧ iv = .int .i64 i ∧ i ≤ ns ∧ p ≤ nb ∧ Hid (p = (flat (L.take i)).length) ∧ Below W2.heap.size W2 wr2) (fun _ iv _ _ _ => ns - (intOf iv).toNat)
      case atStart => exact ⟨0, 0, rfl, rfl, by omega, by omega, Lib.hid rfl, Below.refl _ _⟩
      case round =>
        obtain ⟨i, p, rfl, rfl, hi, hp, HP, hb4⟩ := hrel
        have HBY4 := Lib.hid (HBY.out.below hb4)
        have HT4 := Lib.hid (HT.out.below HT.out.size (HBW.out.trans (hb4.mono HBW.out.size)))
        by_cases hlt2 : i < ns
        · obtain ⟨s, hs⟩ : ∃ s, L[i]? = some s := ⟨L[i]'(by rw [HNS.out]; exact hlt2), by simp [HNS.out, hlt2]⟩
          obtain ⟨g, rfl, hsc, hcs⟩ := HOW.out.cell i (rval s) (by rw [List.getElem?_map, hs]; rfl)
          have HCS : Hid (wr.cell? ⟨g, i, none⟩ = some (.int .i32 s)) := cell_at hb4 hcs
          have hLs : L = L.take i ++ s :: L.drop (i + 1) := by
            have hil : i < L.length := by rw [HNS.out]; exact hlt2
            have h4 : L[i] = s := by rw [List.getElem?_eq_getElem hil] at hs; exact Option.some.inj hs
            rw [← h4, List.getElem_cons_drop, List.take_append_drop]
          have hfl : flat L = flat (L.take i) ++ (encB s ++ flat (L.drop (i + 1))) := by
            conv => lhs; rw [hLs]
            rw [flat_append, flat_cons]
          have hdr : (flat L).drop p = encB s ++ flat (L.drop (i + 1)) := by rw [hfl, HP.out, List.drop_left]
          have hvs : Lib.validRune s = true := HVL.out s (List.mem_of_getElem? hs)
          have hN := next_any ab nb cb p (flat L) wr HNB.out (by omega) hcb HBY4.out HT4.out
          rw [next_full hvs hdr] at hN
          have hel := encB_len s
          have ht := take_snoc hs
          obtain ⟨E, hE⟩ : ∃ E, E = (encB s).length := ⟨_, rfl⟩
          rw [← hE] at hN hel
          have HP2 : Hid (p + E = (flat (L.take (i + 1))).length) := by unfold Hid; rw [ht, flat_snoc, List.length_append, HP.out, hE]
          have hpe : p + E ≤ nb := by
            rw [← HNB.out, hfl, List.length_append, List.length_append, ← HP.out, hE]; omega
          obtain ⟨P, hPP⟩ : ∃ P, P = p + E := ⟨_, rfl⟩
          have eP : (p : Int) + (E : Int) = (P : Int) := by omega
          have hPn : P ≤ nb := by omega
          have HP3 : Hid (P = (flat (L.take (i + 1))).length) := by unfold Hid; rw [hPP, HP2.out]
          have e1 : ((E : Int) == 0) = false := by rw [beq_eq_false_iff_ne]; omega
          have HN := Lib.hid hN
          clear hN hPP HP2 hE hLs hfl hdr hvs ht hs hcs
          go_wp2_with (go_at_call 13; refine HN.out.mono ?_; rintro e w5 ⟨rfl, hb5⟩; have hcs5 := cell_at hb5 HCS.out)
          go_roundw
          case rel => exact ⟨i + 1, P, rfl, by simp, by omega, hPn, HP3, hb4.trans (hb5.mono hb4.size)⟩
          case measure => simp [intOf]; omega
        · have hi2 : L.take i = L := List.take_of_length_le (by rw [HNS.out]; omega)
          have hpn : p = nb := by rw [HP.out, hi2, HNB.out]
          have hK := check_any ab nb cb (flat L) wr HNB.out (by omega) hcb HBY4.out HT4.out
          rw [check_all L HVL.out, ← HAL.out] at hK
          generalize (checkP (flat L)).1 = z at hK
          have HK := Lib.hid hK
          clear hK hi2 HP
          subst hpn
          cases alb with
          | true =>
            go_wp2_with (go_at_call 11; refine HK.out.mono ?_; rintro e w5 ⟨rfl, hb5⟩)
            go_ret
            exact ⟨rfl, HBW.out.trans ((hb4.trans (hb5.mono hb4.size)).mono HBW.out.size)⟩
          | false =>
            go_wp2_with (go_at_call 11; refine HK.out.mono ?_; rintro e w5 ⟨rfl, hb5⟩)
            go_ret
            exact ⟨rfl, HBW.out.trans ((hb4.trans (hb5.mono hb4.size)).mono HBW.out.size)⟩

theorem lawB (rs : List Int) (a : Option Addr) (n cap : Nat) (w : World) (hl : rs.length = n) (hn : n ≤ 9223372036854775807) (hr : ∀ (i : Nat) r, rs[i]? = some r → -2147483648 ≤ r ∧ r ≤ 2147483647)
    (hb : Runes w a rs) (hT : Tabs w) (hT2 : Tab2 w) :
    Calls Tryd.prog 6 #[.slice a n cap] w fun e w' => e = .returned (.bool true) ∧ Below w.heap.size w w' := by
  by_cases h : 300 < n
  · exact back_long a n cap w h hn hT hT2
  · exact back_walk a n cap rs w hl (by omega) hr hb hT hT2
end Go.Proofs.YthbjibgfhagonaaDoor
