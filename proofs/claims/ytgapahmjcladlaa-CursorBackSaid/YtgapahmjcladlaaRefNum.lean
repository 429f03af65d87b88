/- The number of two or four bytes, by the document's answer; both calls at any place. -/
import Derived.Test.YtgapahmjcladlaaNumb
namespace Go.Proofs.Ytgapahmjcladlaa
open Go.RowKit
set_option linter.unusedVariables false

theorem part_get {bs l : List UInt8} {p k : Nat} (h : (bs.drop p).take k = l) {i : Nat} {c : UInt8} (hc : l[i]? = some c) : bs[p + i]? = some c := by
  rw [← h, List.getElem?_take] at hc
  split at hc
  · rwa [List.getElem?_drop] at hc
  · simp at hc

set_option maxHeartbeats 1000000 in
theorem refNumber_two (a : Option Addr) (n cap p : Nat) (bs : List UInt8) (hl : bs.length = n) (hn : n ≤ 1099511627776) (h : p + 2 ≤ n) (w : World) (hb : Bytes w a bs) :
    Calls Try.prog 17 #[.slice a n cap, .int .i64 p, .int .i64 2] w fun e w' => e = .returned (.tuple #[.int .i64 (leV ((bs.drop p).take 2) : Nat), .bool true]) ∧ w' = w := by
  have hl2 : ((bs.drop p).take 2).length = 2 := by rw [List.length_take, List.length_drop, hl]; omega
  generalize hL : (bs.drop p).take 2 = L at hl2 ⊢
  obtain ⟨x, y, rfl⟩ := two_of hl2
  obtain ⟨b, o, rfl, hcell⟩ : ∃ b o, a = some ⟨b, o, none⟩ ∧ ∀ i c, bs[i]? = some c → w.cell? ⟨b, o + i, none⟩ = some (.int .u8 (byt c)) := by
    rcases hb with h0 | h0
    · rw [h0] at hl; simp at hl; omega
    · exact h0
  have d0 : w.cell? ⟨b, o + p, none⟩ = some (.int .u8 (byt x)) := hcell _ x (part_get (i := 0) hL rfl)
  have d1 : w.cell? ⟨b, o + (p + 1), none⟩ = some (.int .u8 (byt y)) := hcell _ y (part_get (i := 1) hL rfl)
  clear hl2 hb hcell hL hl
  have b0 := byt_nonneg x; have b1 := byt_nonneg y
  have u0 := byt_lt x; have u1 := byt_lt y
  have f1 : ¬ (p : Int) < 0 := by omega
  have f2 : ¬ (n : Int) - 2 < (p : Int) := by omega
  go_enter Try.func17, Try.ntmps17
  go_wp2_with fail
  refine wp_loop_rounds 3 ?_
  rw [rounds_succ]
  go_wp2
  rw [rounds_succ]
  go_wp2
  rw [rounds_succ]
  go_wp2
  go_ret2
  refine ⟨?_, rfl⟩
  rw [leV2, show ((y.toNat * 256 + x.toNat : Nat) : Int) = byt y * 256 + byt x by unfold byt; omega]; rfl

set_option maxHeartbeats 1000000 in
theorem refNumber_four (a : Option Addr) (n cap p : Nat) (bs : List UInt8) (hl : bs.length = n) (hn : n ≤ 1099511627776) (h : p + 4 ≤ n) (w : World) (hb : Bytes w a bs) :
    Calls Try.prog 17 #[.slice a n cap, .int .i64 p, .int .i64 4] w fun e w' => e = .returned (.tuple #[.int .i64 (leV ((bs.drop p).take 4) : Nat), .bool true]) ∧ w' = w := by
  have hl2 : ((bs.drop p).take 4).length = 4 := by rw [List.length_take, List.length_drop, hl]; omega
  generalize hL : (bs.drop p).take 4 = L at hl2 ⊢
  obtain ⟨x, y, z, u, rfl⟩ := four_of hl2
  obtain ⟨b, o, rfl, hcell⟩ : ∃ b o, a = some ⟨b, o, none⟩ ∧ ∀ i c, bs[i]? = some c → w.cell? ⟨b, o + i, none⟩ = some (.int .u8 (byt c)) := by
    rcases hb with h0 | h0
    · rw [h0] at hl; simp at hl; omega
    · exact h0
  have d0 : w.cell? ⟨b, o + p, none⟩ = some (.int .u8 (byt x)) := hcell _ x (part_get (i := 0) hL rfl)
  have d1 : w.cell? ⟨b, o + (p + 1), none⟩ = some (.int .u8 (byt y)) := hcell _ y (part_get (i := 1) hL rfl)
  have d2 : w.cell? ⟨b, o + (p + 2), none⟩ = some (.int .u8 (byt z)) := hcell _ z (part_get (i := 2) hL rfl)
  have d3 : w.cell? ⟨b, o + (p + 3), none⟩ = some (.int .u8 (byt u)) := hcell _ u (part_get (i := 3) hL rfl)
  have b2 := byt_nonneg z; have b3 := byt_nonneg u
  have u2 := byt_lt z; have u3 := byt_lt u
  clear hl2 hb hcell hL hl
  have b0 := byt_nonneg x; have b1 := byt_nonneg y
  have u0 := byt_lt x; have u1 := byt_lt y
  have f1 : ¬ (p : Int) < 0 := by omega
  have f2 : ¬ (n : Int) - 4 < (p : Int) := by omega
  go_enter Try.func17, Try.ntmps17
  go_wp2_with fail
  refine wp_loop_rounds 5 ?_
  rw [rounds_succ]
  go_wp2
  rw [rounds_succ]
  go_wp2
  rw [rounds_succ]
  go_wp2
  rw [rounds_succ]
  go_wp2
  rw [rounds_succ]
  go_wp2
  go_ret2
  refine ⟨?_, rfl⟩
  rw [leV4, show ((u.toNat * 16777216 + (z.toNat * 65536 + (y.toNat * 256 + x.toNat)) : Nat) : Int) = ((byt u * 256 + byt z) * 256 + byt y) * 256 + byt x by unfold byt; omega]; rfl

/-- The number of k bytes from a place on: nought where they are not all there. -/
def numV (bs : List UInt8) (p : Int) (k : Nat) : Nat := if fits bs.length p k then leV ((bs.drop p.toNat).take k) else 0
theorem fits_nat {n : Nat} {p : Int} {k : Nat} (h : fits n p k) : ∃ q : Nat, p = q ∧ q + k ≤ n := by
  obtain ⟨h1, h2, h3, h4⟩ := h
  exact ⟨p.toNat, by omega, by omega⟩
theorem number_any (a : Option Addr) (n cap : Nat) (p : Int) (k : Nat) (hk : k = 2 ∨ k = 4) (bs : List UInt8) (hl : bs.length = n) (hn : n ≤ 1099511627776) (hcap : n ≤ cap) (hnil : a = none → n = 0 ∧ cap = 0) (w : World) (hb : Bytes w a bs) :
    Calls Try.prog 25 #[.slice a n cap, .int .i64 p, .int .i64 k] w fun e w' => e = .returned (.tuple #[.int .i64 (numV bs p k), .bool (decide (fits n p k))]) ∧ w' = w := by
  unfold numV
  rw [hl]
  by_cases h : fits n p k
  · rw [if_pos h, decide_eq_true h]
    obtain ⟨q, rfl, hq⟩ := fits_nat h
    rcases hk with rfl | rfl
    · exact number_two a n cap q bs hl hn hcap hnil hq w hb
    · exact number_four a n cap q bs hl hn hcap hnil hq w hb
  · rw [if_neg h, decide_eq_false h]
    exact number_no a n cap p k hn h w
theorem refNumber_any (a : Option Addr) (n cap : Nat) (p : Int) (k : Nat) (hk : k = 2 ∨ k = 4) (bs : List UInt8) (hl : bs.length = n) (hn : n ≤ 1099511627776) (w : World) (hb : Bytes w a bs) :
    Calls Try.prog 17 #[.slice a n cap, .int .i64 p, .int .i64 k] w fun e w' => e = .returned (.tuple #[.int .i64 (numV bs p k), .bool (decide (fits n p k))]) ∧ w' = w := by
  unfold numV
  rw [hl]
  by_cases h : fits n p k
  · rw [if_pos h, decide_eq_true h]
    obtain ⟨q, rfl, hq⟩ := fits_nat h
    rcases hk with rfl | rfl
    · exact refNumber_two a n cap q bs hl hn hq w hb
    · exact refNumber_four a n cap q bs hl hn hq w hb
  · rw [if_neg h, decide_eq_false h]
    exact refNumber_no a n cap p k (by omega) hn h w
theorem u16_any (a : Option Addr) (n cap : Nat) (p : Int) (bs : List UInt8) (hl : bs.length = n) (hn : n ≤ 1099511627776) (hcap : n ≤ cap) (hnil : a = none → n = 0 ∧ cap = 0) (w : World) (hb : Bytes w a bs) :
    Calls Try.prog 16 #[.slice a n cap, .int .i64 p] w fun e w' => e = .returned (.tuple #[.int .i64 (numV bs p 2), .bool (decide (fits n p 2))]) ∧ w' = w := by
  have HP := Lib.hid (number_any a n cap p 2 (by omega) bs hl hn hcap hnil w hb)
  clear hl hb hnil
  generalize decide (fits n p ((2 : Nat) : Int)) = D at HP
  generalize numV bs p 2 = V at HP ⊢
  go_enter Try.func16, Try.ntmps16
  go_wp2_with fail
  refine HP.out.mono ?_
  rintro e w1 ⟨rfl, rfl⟩
  go_wp2_with fail
  go_ret2
  exact ⟨rfl, rfl⟩
theorem u32_any (a : Option Addr) (n cap : Nat) (p : Int) (bs : List UInt8) (hl : bs.length = n) (hn : n ≤ 1099511627776) (hcap : n ≤ cap) (hnil : a = none → n = 0 ∧ cap = 0) (w : World) (hb : Bytes w a bs) :
    Calls Try.prog 15 #[.slice a n cap, .int .i64 p] w fun e w' => e = .returned (.tuple #[.int .i64 (numV bs p 4), .bool (decide (fits n p 4))]) ∧ w' = w := by
  have HP := Lib.hid (number_any a n cap p 4 (by omega) bs hl hn hcap hnil w hb)
  clear hl hb hnil
  generalize decide (fits n p ((4 : Nat) : Int)) = D at HP
  generalize numV bs p 4 = V at HP ⊢
  go_enter Try.func15, Try.ntmps15
  go_wp2_with fail
  refine HP.out.mono ?_
  rintro e w1 ⟨rfl, rfl⟩
  go_wp2_with fail
  go_ret2
  exact ⟨rfl, rfl⟩
end Go.Proofs.Ytgapahmjcladlaa
