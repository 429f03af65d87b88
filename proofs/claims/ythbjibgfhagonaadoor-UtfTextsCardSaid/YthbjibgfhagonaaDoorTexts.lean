/- A text's name, the check of bytes, bytes without their mark: what the calls compute. -/
import Derived.Test.YthbjibgfhagonaaDoorSame
import Derived.Laws.IdiomStrings
namespace Go.Proofs.YthbjibgfhagonaaDoor
open Go.RowKit
set_option linter.unusedVariables false

def nameA (bs : List UInt8) : Int × Bool := allP nameSo bs (bs.length + 1) 0

set_option maxHeartbeats 1000000 in
theorem all_name (a : Option Addr) (n cap : Nat) (bs : List UInt8) (w : World) (hl : bs.length = n) (hn : n ≤ 9223372036854775807) (hcap : n ≤ cap) (hb : Bytes w a bs) (hT : Tabs w) :
    Calls Tryd.prog 35 #[.slice a n cap, .func (.func 39) #[] #[]] w fun e w' => e = .returned (.tuple #[.int .i64 (nameA bs).1, .bool (nameA bs).2]) ∧ Below w.heap.size w w' := by
  have HL := Lib.hid hl; have HB := Lib.hid hb; have HT := Lib.hid hT
  obtain ⟨res, hres⟩ : ∃ res, res = nameA bs := ⟨_, rfl⟩
  rw [← hres]
  have H0 : Hid (allP nameSo bs (n + 1) 0 = res) := by rw [hres, ← hl]; exact Lib.hid rfl
  clear hl hb hT hres
  go_enter Tryd.func35, Tryd.ntmps35
  go_wp2
  go_loopw [6] (fun i wr => ∃ k f : Nat, k ≤ n ∧ i = .int .i64 k ∧ n < k + f ∧ Hid (allP nameSo bs f k = res) ∧ Below w.heap.size w wr) (fun i _ => n - (intOf i).toNat)
  case atStart => exact ⟨0, n + 1, by omega, rfl, by omega, H0, Below.refl _ _⟩
  case round =>
    clear H0
    obtain ⟨k, f, hk, rfl, hf, hA, hbw⟩ := hrel
    obtain ⟨f, rfl⟩ : ∃ g, f = g + 1 := ⟨f - 1, by omega⟩
    by_cases hlt : k < n
    · have hbd := nextP_bound bs k (by rw [HL.out]; exact hlt)
      rw [HL.out] at hbd
      have hA' := hA.out
      rw [allP, if_neg (by rw [HL.out]; omega)] at hA'
      have hN := next_any a n cap k bs wr HL.out hn hcap (HB.out.below hbw) (HT.out.below HT.out.size hbw)
      generalize nextP bs k = d at hbd hA' hN
      obtain ⟨R, K⟩ := d
      simp only at hbd hA' hN
      obtain ⟨hb1, hb2⟩ := hbd
      have HN := Lib.hid hN
      clear hN hA
      by_cases hK : K = 0
      · rw [if_pos hK] at hA'
        have HA := Lib.hid hA'
        subst hK
        clear hA'
        go_wp2_with (go_at_call 13; refine HN.out.mono ?_; rintro e w1 ⟨rfl, hbn⟩)
        go_ret2
        exact ⟨by rw [← HA.out]; rfl, hbw.trans (hbn.mono hbw.size)⟩
      · rw [if_neg hK] at hA'
        have hK1 : 1 ≤ K := by omega
        have hK2 : (K == 0) = false := beq_eq_false_iff_ne.2 hK
        cases hC : nameSo R k with
        | false =>
          rw [if_pos hC] at hA'
          have HA := Lib.hid hA'; have HC := Lib.hid hC
          clear hA' hK hC
          go_wp2_with (first | (go_at_call 13; refine HN.out.mono ?_; rintro e w1 ⟨rfl, hbn⟩) | (go_at_call 39; refine (name1_any R k _).mono ?_; rw [HC.out]; rintro e w2 ⟨rfl, hbm⟩))
          go_ret2
          have b1 := hbw.trans (hbn.mono hbw.size)
          exact ⟨by rw [← HA.out]; rfl, b1.trans (hbm.mono b1.size)⟩
        | true =>
          rw [if_neg (by rw [hC]; simp)] at hA'
          have HA := Lib.hid hA'; have HC := Lib.hid hC
          clear hA' hK hC
          go_wp2_with (first | (go_at_call 13; refine HN.out.mono ?_; rintro e w1 ⟨rfl, hbn⟩) | (go_at_call 39; refine (name1_any R k _).mono ?_; rw [HC.out]; rintro e w2 ⟨rfl, hbm⟩))
          have b1 := hbw.trans (hbn.mono hbw.size)
          have b2 := b1.trans (hbm.mono b1.size)
          go_roundw
          case rel => exact ⟨k + K.toNat, f, by omega, by congr 1; omega, by omega, HA, b2⟩
          case measure => simp [intOf]; omega
    · have hA' := hA.out
      rw [allP, if_pos (by rw [HL.out]; omega)] at hA'
      have HA := Lib.hid hA'
      clear hA hA'
      go_wp2
      go_ret2
      exact ⟨by rw [← HA.out]; rfl, hbw⟩

theorem check_any (a : Option Addr) (n cap : Nat) (bs : List UInt8) (w : World) (hl : bs.length = n) (hn : n ≤ 9223372036854775807) (hcap : n ≤ cap) (hb : Bytes w a bs) (hT : Tabs w) :
    Calls Tryd.prog 11 #[.slice a n cap] w fun e w' => e = .returned (.tuple #[.int .i64 (checkP bs).1, .bool (checkP bs).2]) ∧ Below w.heap.size w w' := by
  have hA := all_check a n cap bs w hl hn hcap hb hT
  generalize checkP bs = d at hA
  obtain ⟨A, K⟩ := d
  have HA := Lib.hid hA
  clear hA hb hT hl
  go_enter Tryd.func11, Tryd.ntmps11
  go_wp2_with (go_at_call 35; refine HA.out.mono ?_; rintro e w1 ⟨rfl, hb1⟩)
  go_ret2
  exact ⟨rfl, hb1⟩

/-- A text's bytes. -/
def strB (s : ByteArray) : List UInt8 := s.data.toList
theorem strB_len (s : ByteArray) : (strB s).length = s.size := by unfold strB; rw [Array.length_toList]; rfl
theorem bytes_of_row (w : World) (s : ByteArray) (cap : Nat) (m : Nat × Nat) : Bytes (w.alloc (.cells (bytesRow s cap) 5 m)) (some ⟨w.heap.size, 0, none⟩) (strB s) := by
  refine .inr ⟨w.heap.size, 0, rfl, fun i c hi => ?_⟩
  rw [Nat.zero_add, World.cell?_alloc_mark]
  unfold strB at hi
  unfold bytesRow
  have hl : i < s.data.size := by
    rcases Nat.lt_or_ge i s.data.toList.length with h | h
    · simpa using h
    · rw [List.getElem?_eq_none h] at hi; simp at hi
  rw [Array.getElem?_append_left (by simpa using hl), Array.getElem?_map]
  rw [Array.getElem?_toList] at hi
  rw [hi]; rfl

theorem name_any (s : ByteArray) (w : World) (hn : s.size ≤ 1099511627776) (hT : Tabs w) :
    Calls Tryd.prog 26 #[.string s] w fun e w' => e = .returned (.bool ((nameA (strB s)).2 && decide (strB s ≠ []))) ∧ Below w.heap.size w w' := by
  have q9 : ∀ w, (convert 9 24 (.string s)).run Tryd.prog w = .ok (.slice (some ⟨w.heap.size, 0, none⟩) s.size (grownCap w s.size 0 5))
      (w.drew.alloc (.cells (bytesRow s (grownCap w s.size 0 5)) 5 ((bytesRow s (grownCap w s.size 0 5)).size, (bytesRow s (grownCap w s.size 0 5)).size + 1))) := fun w => run_bytes_of_string w 9 24 5 s Tryd.underlying9 Tryd.underlying24 Tryd.underlying5
  have hA : ∀ w' : World, Tabs w' → Calls Tryd.prog 35 #[.slice (some ⟨w'.heap.size, 0, none⟩) s.size (grownCap w' s.size 0 5), .func (.func 39) #[] #[]] (w'.drew.alloc (.cells (bytesRow s (grownCap w' s.size 0 5)) 5 ((bytesRow s (grownCap w' s.size 0 5)).size, (bytesRow s (grownCap w' s.size 0 5)).size + 1))) fun e w'' => e = .returned (.tuple #[.int .i64 (nameA (strB s)).1, .bool (nameA (strB s)).2]) ∧ Below w'.heap.size w' w'' := fun w' hT' => by
    have hbb : Below w'.heap.size w' (w'.drew.alloc (.cells (bytesRow s (grownCap w' s.size 0 5)) 5 ((bytesRow s (grownCap w' s.size 0 5)).size, (bytesRow s (grownCap w' s.size 0 5)).size + 1))) := (Below.drew (Below.refl _ _)).alloc (Nat.le_refl _) _
    refine (all_name _ s.size _ (strB s) _ (strB_len s) (by omega) (grownCap_ge _ _ _ _) (bytes_of_row w'.drew s _ _) (hT'.below hT'.size hbb)).mono ?_
    rintro e w'' ⟨rfl, hb⟩
    exact ⟨rfl, hbb.trans (hb.mono hbb.size)⟩
  have hA1 := hA w hT
  generalize nameA (strB s) = d at hA1
  obtain ⟨A, K⟩ := d
  have HA := Lib.hid hA1
  clear hA hA1 hT
  cases K with
  | false =>
    go_enter Tryd.func26, Tryd.ntmps26
    go_wp2_with (go_at_call 35; refine HA.out.mono ?_; rintro e w1 ⟨rfl, hb1⟩)
    go_ret
    exact ⟨rfl, hb1⟩
  | true =>
    go_enter Tryd.func26, Tryd.ntmps26
    go_wp2_with (go_at_call 35; refine HA.out.mono ?_; rintro e w1 ⟨rfl, hb1⟩)
    go_ret
    refine ⟨?_, hb1⟩
    rw [Bool.true_and, Go.ByteArray.toList_eq]
    show Ending.returned (.bool (!(strB s).isEmpty)) = _
    cases strB s <;> rfl

def nums (bs : List UInt8) : List Int := bs.map byt
theorem nums_len (bs : List UInt8) : (nums bs).length = bs.length := by unfold nums; simp
theorem nums_of (bs : List UInt8) : Lib.bytesOf (nums bs) = bs := by
  unfold Lib.bytesOf nums
  rw [List.map_map]
  conv => rhs; rw [← List.map_id bs]
  apply List.map_congr_left
  intro c _
  show UInt8.ofNat (byt c).toNat = c
  unfold byt
  simp
theorem nums_getD (bs : List UInt8) (i : Nat) (c : UInt8) (h : bs[i]? = some c) : (nums bs).getD i 0 = byt c := by
  unfold nums
  rw [List.getD_eq_getElem?_getD, List.getElem?_map, h]; rfl
theorem bytesIn {w : World} {a : Option Addr} {bs : List UInt8} {n : Nat} (h : Bytes w a bs) (hl : bs.length = n) : Lib.BytesIn w a n (nums bs) := fun hn => by
  subst hl
  rcases h with rfl | ⟨b, o, rfl, hc⟩
  · simp at hn
  · refine ⟨b, o, rfl, fun i hi => ?_⟩
    rw [hc i bs[i] (by simp [hi]), nums_getD bs i bs[i] (by simp [hi])]

def trimB (ps bs : List UInt8) : List UInt8 := if ps.isPrefixOf bs then bs.drop ps.length else bs
def stripB (bs : List UInt8) : List UInt8 := trimB [239, 187, 191] bs
theorem trim_any (a : Option Addr) (n cap : Nat) (bs ps : List UInt8) (p : Addr) (m d : Nat) (w : World) (hl : bs.length = n) (hm : ps.length = m) (hcap : n ≤ cap) (hnil : a = none → n = 0 ∧ cap = 0) (hb : Bytes w a bs) (hp : Bytes w (some p) ps) (hps : 0 < ps.length) :
    Calls Tryd.prog 41 #[.slice a n cap, .slice (some p) m d] w fun e w' => ∃ a' n' cap', e = .returned (.slice a' n' cap') ∧ w' = w ∧ n' ≤ n ∧ (a' = none → n' = 0 ∧ cap' = 0) ∧ (trimB ps bs).length = n' ∧ Bytes w a' (trimB ps bs) := by
  unfold trimB
  refine (Tryd.bytes_TrimPrefix_all a (some p) n cap m d (nums bs) (nums ps) w (by rw [nums_len, hl]) (by rw [nums_len, hm]) hcap (bytesIn hb hl) (bytesIn hp hm)).mono ?_
  rintro e w' ⟨rfl, rfl⟩
  by_cases hpre : ps.isPrefixOf bs = true
  · rw [if_pos hpre]
    rcases hb with rfl | ⟨b, o, rfl, hc⟩
    · cases ps with
      | nil => simp at hps
      | cons x t => simp at hpre
    · have e1 : Lib.trimPrefixV (some ⟨b, o, none⟩) n cap (nums bs) (nums ps) = Lib.sliceFrom b o n cap ps.length := by
        cases hps' : ps with
        | nil => rw [hps'] at hps; simp at hps
        | cons x t =>
          rw [← hps']
          have : nums ps = byt x :: nums t := by rw [hps']; rfl
          unfold Lib.trimPrefixV
          rw [this]
          show Lib.bytesTrimPrefix b o n cap (nums bs) (byt x :: nums t) = _
          rw [← this]
          unfold Lib.bytesTrimPrefix
          rw [nums_of, nums_of, nums_len]
          unfold Lib.hasPrefix
          exact if_pos hpre
      rw [e1]
      unfold Lib.sliceFrom
      refine ⟨_, _, _, rfl, rfl, by omega, fun h => ?_, by rw [List.length_drop, hl], ?_⟩
      · split at h <;> cases h
      · split
        · next hc' =>
          refine .inl ?_
          rw [List.drop_eq_nil_iff]
          omega
        · exact Bytes.drop hc _
  · rw [if_neg hpre]
    have e1 : Lib.trimPrefixV a n cap (nums bs) (nums ps) = .slice a n cap := by
      unfold Lib.trimPrefixV
      split
      · next b o y t h =>
        unfold Lib.bytesTrimPrefix
        rw [nums_of, nums_of]
        unfold Lib.hasPrefix
        exact if_neg hpre
      · rfl
    rw [e1]
    exact ⟨a, n, cap, rfl, rfl, Nat.le_refl _, hnil, hl, hb⟩

theorem strip_any (a : Option Addr) (n cap : Nat) (bs : List UInt8) (w : World) (hl : bs.length = n) (hn : n ≤ 1099511627776) (hcap : n ≤ cap) (hnil : a = none → n = 0 ∧ cap = 0) (hb : Bytes w a bs) :
    Calls Tryd.prog 30 #[.slice a n cap] w fun e w' => ∃ v, e = .returned v ∧ OwnB w' w.heap.size 5 v (stripB bs) ∧ Below w.heap.size w w' := by
  have hb1 := (Below.refl w.heap.size w).alloc (Nat.le_refl _) (.cells (([239, 187, 191] : List UInt8).map fun c => Value.int .u8 (byt c)).toArray 5)
  have hT := trim_any a n cap bs [239, 187, 191] ⟨w.heap.size, 0, none⟩ 3 3 (w.alloc (.cells (([239, 187, 191] : List UInt8).map fun c => Value.int .u8 (byt c)).toArray 5)) hl rfl hcap hnil (hb.below hb1) (.inr ⟨_, 0, rfl, bytes_lit w [239, 187, 191] 5 _⟩) (by decide)
  have HT := Lib.hid hT; have HB1 := Lib.hid hb1
  clear hb hnil hl hT hb1
  go_enter Tryd.func30, Tryd.ntmps30
  go_wp2_with (go_at_call 41; refine HT.out.mono ?_; rintro e w1 ⟨a', n', cap', rfl, rfl, hle, hnil', hl', hb'⟩)
  have HL' := Lib.hid hl'; have HB' := Lib.hid hb'; have HN' := Lib.hid hnil'
  clear hl' hb' hnil'
  go_wp2_with (go_at_call 32; refine (clone_any a' n' cap' (stripB bs) _ HL'.out (by omega) HN'.out HB'.out).mono ?_; rintro e w2 ⟨v, rfl, hO, hb2⟩)
  go_ret
  exact ⟨v, rfl, hO.mono HB1.out.size, HB1.out.trans (hb2.mono HB1.out.size)⟩
end Go.Proofs.YthbjibgfhagonaaDoor
