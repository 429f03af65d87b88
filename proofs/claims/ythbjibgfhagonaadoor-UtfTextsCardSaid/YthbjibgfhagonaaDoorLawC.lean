/- The walk of UtfCuts: it returns true for all lists of signs and every cut. -/
import Derived.Test.YthbjibgfhagonaaDoorEnc
import Derived.Test.YthbjibgfhagonaaDoorAlive
import Derived.Maps.AppendAt
namespace Go.Proofs.YthbjibgfhagonaaDoor
open Go.RowKit
set_option linter.unusedVariables false

/-- Signs that lie in memory. -/
def Runes (w : World) (a : Option Addr) (rs : List Int) : Prop :=
  rs = [] ∨ ∃ b o, a = some ⟨b, o, none⟩ ∧ ∀ i r, rs[i]? = some r → w.cell? ⟨b, o + i, none⟩ = some (.int .i32 r)
theorem Runes.below {w w' : World} {a : Option Addr} {rs : List Int} (h : Runes w a rs) (hb : Below w.heap.size w w') : Runes w' a rs := by
  rcases h with h | ⟨b, o, ha, hc⟩
  · exact .inl h
  · exact .inr ⟨b, o, ha, fun i c hi => cell_at hb (hc i c hi)⟩
def ival (s : Nat) : Value := .int .i64 s
/-- A row of values that the call owns. -/
def Own1 (w : World) (B e : Nat) (v : Value) (xs : List Value) : Prop := w.ownsRow B e 1 v xs.length xs

theorem wpList_append_one {P : Program} {ops : Array Oper} {rest : List Oper} {o : Oper} {a : Act} {w : World} {Q : Exit → Act → World → Prop} (hgd : o.guard = none) (s x : Operand) (t e : TypeId)
    (ho : o.op = .call { callee := .builtin .append, args := #[s, x], argTypes := #[t, t] }) (ht : P.underlying t = some (.slice e)) (z0 : Value) (m : Nat)
    (hinfo : (P.info? e).map (fun i => (i.zero, i.size, i.bytes)) = some (some z0, 1, m)) (hz : z0.cells.size = 1) (hm : m ≤ 64)
    (B : Nat) (v : Value) (xs : List Value) (u : Value) (y : Addr) (n cap : Nat) (hs : a.eval s = v) (hown : Own1 w B e v xs) (hx : a.eval x = .slice (some y) n cap) (hn : n = 1) (hu : w.cell? (y.add 0) = some u) (h1 : u.oneCell' = true)
    (hlen : xs.length ≤ 1000000) (hB : B ≤ w.heap.size)
    (h : ∀ v' w', Own1 w' B e v' (xs ++ [u]) → w.grownBy w' v.ownBlock → Below B w w' → (v'.ownBlock = v.ownBlock ∨ v'.ownBlock = some w.heap.size) → wpList P ops Q rest (a.put o.dst v') w') : wpList P ops Q (o :: rest) a w := by
  subst hn
  obtain ⟨i0, hi, hz0, hz1, hz2⟩ := info_parts hinfo
  refine wpList_append_own_at w hgd s x t ho B e i0 z0 1 m ht hi hz0 hz1 hz2 hz (by decide) v xs.length xs hs hown y 1 cap [u] hx (by simp) (fun j q hj => ?_) (fun q hq => ?_) (by unfold maxLen; omega) ?_ hB ?_
  · cases j with
    | zero => simp at hj; rw [← hj]; exact hu
    | succ j => simp at hj
  · simp at hq; rw [hq]; exact h1
  · have : (xs.length + 1) * m ≤ 1000001 * 64 := Nat.mul_le_mul (by omega) hm
    omega
  · intro v' w' p1 p2 _ p4
    refine h v' w' ?_ p2 (below_of_grown p2 hB (own_block hown)) p4
    unfold Own1
    rw [List.length_append]
    exact p1

theorem Own1.form {w : World} {B e : Nat} {v : Value} {xs : List Value} (h : Own1 w B e v xs) : ∃ ao cap, v = .slice ao xs.length cap := by
  rcases h.2 with ⟨hv, h0⟩ | ⟨g, cap, cur, hv, _⟩
  · exact ⟨none, 0, by rw [hv, h0]⟩
  · exact ⟨_, cap, hv⟩
theorem Own1.below {w w' : World} {B e : Nat} {v : Value} {xs : List Value} (h : Own1 w B e v xs) (hb : Below w.heap.size w w') : Own1 w' B e v xs := by
  unfold Own1 at h ⊢
  refine ⟨h.1, ?_⟩
  rcases h.2 with h2 | ⟨g, cap, cur, hv, hg, hh, r⟩
  · exact .inl h2
  · exact .inr ⟨g, cap, cur, hv, hg, by rw [hb.block g (Array.getElem?_eq_some_iff.1 hh).1]; exact hh, r⟩
theorem Own1.lt {w : World} {B e : Nat} {v : Value} {xs : List Value} (h : Own1 w B e v xs) : ∀ k, v.ownBlock = some k → k < w.heap.size := by
  intro k hk
  rcases h.2 with ⟨rfl, _⟩ | ⟨g, cap, cur, rfl, hg, hh, r⟩
  · simp [Value.ownBlock] at hk
  · simp only [Value.ownBlock, Option.some.injEq] at hk; subst hk; exact (Array.getElem?_eq_some_iff.1 hh).1
theorem Own1.cell {w : World} {B e : Nat} {so : Option Addr} {n sc : Nat} {xs : List Value} (h : Own1 w B e (.slice so n sc) xs) (i : Nat) (u : Value) (hu : xs[i]? = some u) : ∃ g, so = some ⟨g, 0, none⟩ ∧ n ≤ sc ∧ w.cell? ⟨g, i, none⟩ = some u := by
  have hi : i < xs.length := by
    rcases Nat.lt_or_ge i xs.length with h | h
    · exact h
    · rw [List.getElem?_eq_none h] at hu; simp at hu
  have h' := h
  rcases h.2 with ⟨hv, h0⟩ | ⟨g, cap, cur, hv, hg, hh, hc, hm, hs, ht⟩
  · omega
  · simp only [Value.slice.injEq] at hv
    obtain ⟨rfl, rfl, rfl⟩ := hv
    refine ⟨g, rfl, hc, ?_⟩
    unfold Own1 at h'
    rw [World.ownsRow.cellAt h' i (by omega), hu]
/-- Bytes stay when a row beside them grows. -/
theorem Bytes.grown {w w' : World} {a : Option Addr} {bs : List UInt8} {k : Option Nat} (h : Bytes w a bs) (hg : w.grownBy w' k) (hne : ∀ b o, a = some ⟨b, o, none⟩ → k ≠ some b) : Bytes w' a bs := by
  rcases h with h | ⟨b, o, ha, hc⟩
  · exact .inl h
  · refine .inr ⟨b, o, ha, fun i c hi => ?_⟩
    have h1 := hc i c hi
    rw [World.cell?_of_block (w := w) (hg.block b (block_lt_of_cell h1) (fun e => hne b o ha (by rw [← e])))]
    exact h1

theorem starts_snoc (r : Int) : ∀ (l : List Int) (o : Nat), starts o (l ++ [r]) = starts o l ++ [o + (flat l).length]
  | [], o => by rw [flat_nil]; rfl
  | x :: l, o => by
    rw [List.cons_append, starts, starts_snoc r l, starts, flat_cons, List.length_append, List.cons_append]
    congr 3; omega
theorem flat_snoc (l : List Int) (r : Int) : flat (l ++ [r]) = flat l ++ encB r := by rw [flat_append, flat_cons, flat_nil, List.append_nil]
theorem filter_snoc {rs : List Int} {k : Nat} {r : Int} (h : rs[k]? = some r) (p : Int → Bool) : (rs.take (k + 1)).filter p = (rs.take k).filter p ++ if p r then [r] else [] := by
  rw [List.take_add_one, h, List.filter_append]
  cases hp : p r <;> simp [hp]
theorem starts_len : ∀ (l : List Int) (o : Nat), (starts o l).length = l.length
  | [], _ => rfl
  | x :: l, o => by rw [starts, List.length_cons, starts_len l, List.length_cons]
theorem info3 : (Tryd.prog.info? 3).map (fun i => (i.zero, i.size, i.bytes)) = some (some (.int .i64 0), 1, 8) := by kernel_rfl

theorem cuts_long (a : Option Addr) (n cap : Nat) (cut : Int) (w : World) (hn : 200 < n) (hn2 : n ≤ 9223372036854775807) (hT : Tabs w) (hT2 : Tab2 w) :
    Calls Tryd.prog 3 #[.slice a n cap, .int .i64 cut] w fun e w' => e = .returned (.bool true) ∧ Below w.heap.size w w' := by
  have HA := Lib.hid (alive_any w hT hT2)
  clear hT hT2
  go_enter Tryd.func3, Tryd.ntmps3
  go_wp2_with (go_at_call 8; refine HA.out.mono ?_; rintro e w1 ⟨rfl, hb1⟩)
  go_ret
  exact ⟨rfl, hb1⟩

theorem lastOf_snoc (c acc s : Nat) (l : List Nat) : lastOf c acc (l ++ [s]) = if s < c then s else lastOf c acc l := by unfold lastOf; rw [List.foldl_append]; rfl
theorem take_snoc {α : Type} {l : List α} {i : Nat} {s : α} (h : l[i]? = some s) : l.take (i + 1) = l.take i ++ [s] := by rw [List.take_add_one, h]; rfl

set_option maxHeartbeats 2000000 in
set_option maxRecDepth 100000 in
theorem cuts_walk (a : Option Addr) (n cap : Nat) (rs : List Int) (cut : Int) (w : World) (hl : rs.length = n) (hn : n ≤ 200) (hr : ∀ (i : Nat) r, rs[i]? = some r → -2147483648 ≤ r ∧ r ≤ 2147483647) (hcut : -9223372036854775808 ≤ cut ∧ cut ≤ 9223372036854775807)
    (hb : Runes w a rs) (hT : Tabs w) (hT2 : Tab2 w) :
    Calls Tryd.prog 3 #[.slice a n cap, .int .i64 cut] w fun e w' => e = .returned (.bool true) ∧ Below w.heap.size w w' := by
  have HA := Lib.hid (alive_any w hT hT2)
  have HL := Lib.hid hl; have HR := Lib.hid hr; have HB := Lib.hid hb; have HT := Lib.hid hT; have HT2 := Lib.hid hT2
  obtain ⟨hc0, hc1⟩ := hcut
  clear hl hr hb hT hT2
  go_enter Tryd.func3, Tryd.ntmps3
  go_wp2_with (go_at_call 8; refine HA.out.mono ?_; rintro e w1 ⟨rfl, hb1⟩)
  have b1 := hb1.alloc hb1.size (.cells #[] 5)
  have b2 := b1.alloc b1.size (.cells #[] 3)
  have hO0 : Own1 ((w1.alloc (.cells #[] 5)).alloc (.cells #[] 3)) w.heap.size 3 (.slice (some ⟨w1.heap.size + 1, 0, none⟩) 0 0) ((starts 0 []).map ival) := by
    have := World.ownsRow_lit (e := 3) (size := 1) (w1.alloc (.cells #[] 5)) #[] 0 b1.size (by unfold maxLen; omega) rfl
    rw [World.size_alloc] at this
    exact this
  have HO0 := Lib.hid hO0; have HB2 := Lib.hid b2
  clear hO0 b1 b2 hb1 HA
  go_loopw [5, 6, 7] (fun bv sv iv wr => ∃ (k : Nat) (L : List Int) (ab so : Option Addr) (nb cb ns sc : Nat), bv = .slice ab nb cb ∧ sv = .slice so ns sc ∧ iv = .int .i64 k ∧ k ≤ n ∧ Hid (L = (rs.take k).filter charP) ∧ Hid ((flat L).length = nb) ∧ Hid ((starts 0 L).length = ns) ∧ nb ≤ 4 * k ∧ ns ≤ k ∧ nb ≤ cb ∧
      Hid (ab = none → nb = 0 ∧ cb = 0) ∧ Hid (Bytes wr ab (flat L)) ∧ Hid (Own1 wr w.heap.size 3 (.slice so ns sc) ((starts 0 L).map ival)) ∧ Hid (∀ b' o', ab = some ⟨b', o', none⟩ → (Value.slice so ns sc).ownBlock ≠ some b') ∧ Below w.heap.size w wr) (fun _ _ iv _ => n - (intOf iv).toNat)
  case atStart =>
    refine ⟨0, [], _, _, 0, 0, 0, 0, rfl, rfl, rfl, by omega, Lib.hid rfl, Lib.hid rfl, Lib.hid rfl, by omega, by omega, by omega, Lib.hid (fun h => by simp at h), Lib.hid (.inl rfl), HO0, Lib.hid ?_, HB2.out⟩
    intro b' o' h1 h2
    simp [Value.ownBlock] at h1 h2
    omega
  case round =>
    clear HO0 HB2
    obtain ⟨k, L, ab, so, nb, cb, ns, sc, rfl, rfl, rfl, hk, HLL, HNB, HNS, h4, h5, hcb, HNIL, HBY, HOW, HSEP, hbw⟩ := hrel
    by_cases hlt : k < n
    · obtain ⟨r, hrk⟩ : ∃ r, rs[k]? = some r := ⟨rs[k]'(by rw [HL.out]; exact hlt), by simp [HL.out, hlt]⟩
      rcases HB.out with h0 | ⟨b, o, rfl, hbc⟩
      · rw [h0] at hrk; simp at hrk
      have HBC := Lib.hid hbc
      clear hbc
      have hcell : wr.cell? ⟨b, o + k, none⟩ = some (.int .i32 r) := by
        have h1 := HBC.out k r hrk
        rw [hbw.cell (block_lt_of_cell h1)]; exact h1
      obtain ⟨hr0, hr1⟩ := HR.out k r hrk
      have HRK := Lib.hid hrk
      have hfs := filter_snoc hrk charP
      rw [← HLL.out] at hfs
      have HC := Lib.hid (char_any r wr)
      clear hrk
      cases hp : charP r with
      | false =>
        rw [hp] at hfs
        have HFS : Hid (L = (rs.take (k + 1)).filter charP) := by rw [hfs]; exact Lib.hid (by simp)
        have HP := Lib.hid hp
        clear hfs hp
        go_wp2_with (go_at_call 9; refine HC.out.mono ?_; rw [HP.out]; rintro e w2 ⟨rfl, hb2⟩)
        go_roundw
        case rel => exact ⟨k + 1, L, ab, so, nb, cb, ns, sc, rfl, rfl, by simp, by omega, HFS, HNB, HNS, by omega, by omega, hcb, HNIL, Lib.hid (HBY.out.below hb2), Lib.hid (HOW.out.below hb2), HSEP, hbw.trans (hb2.mono hbw.size)⟩
        case measure => simp [intOf]; omega
      | true =>
        rw [hp] at hfs
        have HFS : Hid (L ++ [r] = (rs.take (k + 1)).filter charP) := by rw [hfs]; exact Lib.hid (by simp)
        have HP := Lib.hid hp
        clear hfs hp
        have tok1 : True := trivial
        go_wp2_with (first
          | (go_at_call 9; refine HC.out.mono ?_; rw [HP.out]; rintro e w2 ⟨rfl, hb2⟩)
          | (at_builtin; clear tok1; refine wpList_append_one rfl (.tmp 31) (.tmp 34) 25 3 rfl Tryd.underlying25 (.int .i64 0) 8 info3 rfl (by omega) w.heap.size (.slice so ns sc) ((starts 0 L).map ival) (ival nb) ⟨w2.heap.size, 0, none⟩ 1 1 (by go_simp) ?c1 (by go_simp) rfl ?c2 rfl ?c3 ?c4 ?_))
        case c1 => exact (HOW.out.below hb2).below ((Below.refl _ _).alloc (Nat.le_refl _) _)
        case c2 => rw [plain_add, World.cell?_alloc_mark]; rfl
        case c3 => rw [List.length_map, HNS.out]; omega
        case c4 => rw [World.size_alloc]; have := hbw.size; have := hb2.size; omega
        intro v' w3 hO3 hg3 hb3 hv3
        have hg2 := (Below.refl w2.heap.size w2).alloc (Nat.le_refl _) (.cells #[ival nb] 3)
        have hbw2 := hbw.trans (hb2.mono hbw.size)
        have hbw3 : Below w.heap.size w w3 := (hbw2.alloc hbw2.size (.cells #[ival nb] 3)).trans hb3
        have hcell3 : w3.cell? ⟨b, o + k, none⟩ = some (.int .i32 r) := by
          have h1 := HBC.out k r HRK.out
          rw [hbw3.cell (block_lt_of_cell h1)]; exact h1
        have hBY3 : Bytes w3 ab (flat L) := ((HBY.out.below hb2).below hg2).grown hg3 (fun b' o' h => HSEP.out b' o' h)
        have hS3 : ((starts 0 L).map ival ++ [ival nb]) = (starts 0 (L ++ [r])).map ival := by rw [starts_snoc, Nat.zero_add, HNB.out, List.map_append]; rfl
        have hns3 : ((starts 0 L).map ival ++ [ival nb]).length = ns + 1 := by rw [List.length_append, List.length_map, HNS.out]; rfl
        obtain ⟨so', sc', hv⟩ := hO3.form
        rw [hns3] at hv
        subst hv
        rw [hS3] at hO3
        have hP := put_any ab nb cb (flat L) r w3 HNB.out (by omega) HNIL.out hr0 hr1 hBY3
        rw [char_valid HP.out] at hP
        have hput : putB (flat L) r = flat (L ++ [r]) := by unfold putB; rw [char_valid HP.out, flat_snoc]; rfl
        rw [hput] at hP
        have HPUT := Lib.hid hP; have HO3 := Lib.hid hO3
        have hlt3 := hO3.lt
        have HLT3 := Lib.hid hlt3
        have HW3 := Lib.hid hb3
        have HNS3 : Hid ((starts 0 (L ++ [r])).length = ns + 1) := by unfold Hid; rw [← hns3, hS3, List.length_map]
        clear hbw2 hP hO3 hg2 hBY3 hS3 hns3 hput hlt3 hg3 hv3 hb3 HC HSEP HOW HBY
        go_wp2_with (go_at_call 10; refine HPUT.out.mono ?_; rintro e w4 ⟨v, rfl, hv, hb4⟩)
        obtain ⟨ab', nb', cb', rfl, hl4, hc4, hnil4, hby4⟩ := hv.isB
        have HV4 := Lib.hid (own_block hv)
        have HL4 := Lib.hid hl4; have HNIL4 := Lib.hid hnil4; have HBY4 := Lib.hid hby4
        have hle4 : nb' ≤ nb + 4 := by
          have := encB_len r
          rw [flat_snoc, List.length_append, HNB.out] at hl4; omega
        clear hv hl4 hnil4 hby4
        go_wp2_with fail
        go_roundw
        case rel =>
          refine ⟨k + 1, L ++ [r], ab', so', nb', cb', ns + 1, sc', rfl, rfl, by simp, by omega, HFS, HL4, HNS3, by omega, by omega, hc4, HNIL4, HBY4, Lib.hid (HO3.out.below hb4), Lib.hid ?_, hbw3.trans (hb4.mono hbw3.size)⟩
          intro b' o' h1 h2
          have h3 := HLT3.out b' h2
          have h4 := HV4.out b' (by rw [h1]; rfl)
          omega
        case measure => simp [intOf]; omega
    · have hkn : k = n := by omega
      have hLL : L = rs.filter charP := by rw [HLL.out, List.take_of_length_le (by rw [HL.out]; omega)]
      have HCH : Hid (∀ r ∈ L, charP r = true) := fun r h => by rw [hLL] at h; exact (List.mem_filter.1 h).2
      clear hLL HLL
      by_cases q0 : cut < 0
      · go_wp2
        go_ret
        exact ⟨rfl, hbw⟩
      by_cases q1 : (nb : Int) < cut
      · go_wp2
        go_ret
        exact ⟨rfl, hbw⟩
      obtain ⟨c, rfl⟩ := Int.eq_ofNat_of_zero_le (by omega : 0 ≤ cut)
      have hcn : c ≤ nb := by omega
      clear q0 q1
      have S0 : Hid (((c : Int) == (nb : Int)) = true ↔ c = nb ∨ c ∈ (starts 0 L).take 0) := by
        unfold Hid
        rw [beq_iff_eq]
        exact ⟨fun h => .inl (by omega), fun h => by rcases h with h | h; omega; simp at h⟩
      have HBW := Lib.hid hbw
      have hns : ns ≤ 200 := by omega
      have hnb : nb ≤ 800 := by omega
      clear hkn hk h4 h5 hbw HSEP
      go_wp2
      go_loopw [8, 9, 10] (fun la bv iv wr2 => ∃ (i p : Nat) (bw : Bool), la = .int .i64 p ∧ bv = .bool bw ∧ iv = .int .i64 i ∧ i ≤ ns ∧ Hid (bw = true ↔ c = nb ∨ c ∈ (starts 0 L).take i) ∧ Hid (p = lastOf c 0 ((starts 0 L).take i)) ∧ Hid (wr2 = wr)) (fun _ _ iv _ => ns - (intOf iv).toNat)
      case atStart => exact ⟨0, 0, _, rfl, rfl, rfl, by omega, S0, Lib.hid rfl, Lib.hid rfl⟩
      case round =>
        clear S0
        obtain ⟨i, p, bw, rfl, rfl, rfl, hi, HW, HP, HWR⟩ := hrel
        obtain rfl := HWR.out
        clear HWR
        by_cases hlt2 : i < ns
        · obtain ⟨s, hs⟩ : ∃ s, (starts 0 L)[i]? = some s := ⟨(starts 0 L)[i]'(by rw [HNS.out]; exact hlt2), by simp [HNS.out, hlt2]⟩
          obtain ⟨g, rfl, hsc, hcs⟩ := HOW.out.cell i (ival s) (by rw [List.getElem?_map, hs]; rfl)
          have hcs' : wr.cell? ⟨g, i, none⟩ = some (.int .i64 s) := hcs
          have ht := take_snoc hs
          have HTK := Lib.hid ht
          have HP2 : Hid ((if s < c then s else p) = lastOf c 0 ((starts 0 L).take (i + 1))) := by unfold Hid; rw [ht, lastOf_snoc, HP.out]
          have HW2 : Hid ((bw = true ∨ s = c) ↔ c = nb ∨ c ∈ (starts 0 L).take (i + 1)) := by
            unfold Hid
            rw [ht, List.mem_append, ← or_assoc, ← HW.out, List.mem_singleton, eq_comm (a := c)]
          clear ht hs hcs HW HP
          by_cases hsc1 : s = c
          · have e1 : ((s : Int) == (c : Int)) = true := by rw [beq_iff_eq]; omega
            have e2 : ¬ ((s : Int) < (c : Int)) := by omega
            have HP3 : Hid (p = lastOf c 0 ((starts 0 L).take (i + 1))) := by have := HP2.out; rw [if_neg (by omega)] at this; exact this
            have HW3 : Hid (true = true ↔ c = nb ∨ c ∈ (starts 0 L).take (i + 1)) := by unfold Hid; rw [← HW2.out]; simp [hsc1]
            clear HP2 HW2 hsc1
            cases bw with
            | true =>
              go_wp2
              go_roundw
              case rel => exact ⟨i + 1, p, true, rfl, rfl, by simp, by omega, HW3, HP3, by first | exact Lib.hid rfl | exact Lib.hid trivial⟩
              case measure => simp [intOf]; omega
            | false =>
              go_wp2
              go_roundw
              case rel => exact ⟨i + 1, p, true, rfl, rfl, by simp, by omega, HW3, HP3, by first | exact Lib.hid rfl | exact Lib.hid trivial⟩
              case measure => simp [intOf]; omega
          · have e1 : ((s : Int) == (c : Int)) = false := by rw [beq_eq_false_iff_ne]; omega
            have HW3 : Hid (bw = true ↔ c = nb ∨ c ∈ (starts 0 L).take (i + 1)) := by unfold Hid; rw [← HW2.out]; simp [hsc1]
            clear HW2 hsc1
            by_cases hlt3 : (s : Int) < (c : Int)
            · have HP3 : Hid (s = lastOf c 0 ((starts 0 L).take (i + 1))) := by have := HP2.out; rw [if_pos (by omega)] at this; exact this
              clear HP2
              cases bw with
              | true =>
                go_wp2
                go_roundw
                case rel => exact ⟨i + 1, s, true, rfl, rfl, by simp, by omega, HW3, HP3, by first | exact Lib.hid rfl | exact Lib.hid trivial⟩
                case measure => simp [intOf]; omega
              | false =>
                go_wp2
                go_roundw
                case rel => exact ⟨i + 1, s, false, rfl, rfl, by simp, by omega, HW3, HP3, by first | exact Lib.hid rfl | exact Lib.hid trivial⟩
                case measure => simp [intOf]; omega
            · have HP3 : Hid (p = lastOf c 0 ((starts 0 L).take (i + 1))) := by have := HP2.out; rw [if_neg (by omega)] at this; exact this
              clear HP2
              cases bw with
              | true =>
                go_wp2
                go_roundw
                case rel => exact ⟨i + 1, p, true, rfl, rfl, by simp, by omega, HW3, HP3, by first | exact Lib.hid rfl | exact Lib.hid trivial⟩
                case measure => simp [intOf]; omega
              | false =>
                go_wp2
                go_roundw
                case rel => exact ⟨i + 1, p, false, rfl, rfl, by simp, by omega, HW3, HP3, by first | exact Lib.hid rfl | exact Lib.hid trivial⟩
                case measure => simp [intOf]; omega
        · have hi2 : (starts 0 L).take i = starts 0 L := List.take_of_length_le (by rw [HNS.out]; omega)
          have hw := HW.out; have hp := HP.out
          rw [hi2] at hw hp
          have hK := check_any ab c cb ((flat L).take c) wr (by rw [List.length_take, HNB.out]; omega) (by omega) (by omega) (HBY.out.take c) (HT.out.below HT.out.size HBW.out)
          rcases cuts_law L HCH.out c (by rw [HNB.out]; exact hcn) with ⟨h1, h2⟩ | ⟨h1, h2⟩
          · have hbt : bw = true := hw.2 (by rw [← HNB.out]; exact h1)
            subst hbt
            rw [h2] at hK
            have HK := Lib.hid hK
            clear hK h1 h2 hw hp HW HP hi2
            go_wp2_with (go_at_call 11; refine HK.out.mono ?_; rintro e w5 ⟨rfl, hb5⟩)
            go_ret
            exact ⟨rfl, HBW.out.trans (hb5.mono HBW.out.size)⟩
          · have hbt : bw = false := by
              cases bw with
              | false => rfl
              | true => exact absurd (by rw [HNB.out]; exact hw.1 rfl) h1
            subst hbt
            rw [h2, ← hp] at hK
            have HK := Lib.hid hK
            clear hK h1 h2 hw hp HW HP hi2
            go_wp2_with (go_at_call 11; refine HK.out.mono ?_; rintro e w5 ⟨rfl, hb5⟩)
            go_ret
            exact ⟨rfl, HBW.out.trans (hb5.mono HBW.out.size)⟩
end Go.Proofs.YthbjibgfhagonaaDoor
