/- The number of two or four bytes: what the calls compute. -/
import Derived.Test.YtgapahmjcladlaaNum
namespace Go.Proofs.Ytgapahmjcladlaa
open Go.RowKit
set_option linter.unusedVariables false

theorem number_no (a : Option Addr) (n cap : Nat) (p k : Int) (hn : n ≤ 1099511627776) (h : ¬ fits n p k) (w : World) :
    Calls Try.prog 25 #[.slice a n cap, .int .i64 p, .int .i64 k] w fun e w' => e = .returned (.tuple #[.int .i64 0, .bool false]) ∧ w' = w := by
  have HP := Lib.hid (part_no a n cap p k hn h w)
  clear h
  go_enter Try.func25, Try.ntmps25
  go_wp2_with fail
  refine HP.out.mono ?_
  rintro e w1 ⟨rfl, rfl⟩
  go_wp2_with fail
  refine wp_loop_rounds 1 ?_
  rw [rounds_succ]
  go_wp2
  go_ret2
  exact ⟨rfl, rfl⟩
theorem two_of {l : List UInt8} (h : l.length = 2) : ∃ x y, l = [x, y] := by
  match l, h with
  | [x, y], _ => exact ⟨x, y, rfl⟩
theorem four_of {l : List UInt8} (h : l.length = 4) : ∃ x y z u, l = [x, y, z, u] := by
  match l, h with
  | [x, y, z, u], _ => exact ⟨x, y, z, u, rfl⟩
theorem bytes_some {w : World} {ad : Option Addr} {x : UInt8} {l : List UInt8} (h : Bytes w ad (x :: l)) : ∃ b o, ad = some ⟨b, o, none⟩ ∧ ∀ i c, (x :: l)[i]? = some c → w.cell? ⟨b, o + i, none⟩ = some (.int .u8 (byt c)) := by
  rcases h with h | h
  · simp at h
  · exact h

theorem or_nat (a b : Nat) (ha : a < 4611686018427387904) (hb : b < 4611686018427387904) : bits BinOp.or IntKind.i64 (a : Int) (b : Int) = ((a ||| b : Nat) : Int) := by
  have h1 : (a ||| b) < 2 ^ 62 := Nat.or_lt_two_pow (by omega) (by omega)
  have e1 : BitVec.ofInt 64 (a : Int) = BitVec.ofNat 64 a := BitVec.ofInt_natCast 64 a
  have e2 : BitVec.ofInt 64 (b : Int) = BitVec.ofNat 64 b := BitVec.ofInt_natCast 64 b
  have e3 : (BitVec.ofNat 64 a ||| BitVec.ofNat 64 b).toNat = a ||| b := by
    rw [BitVec.toNat_or, BitVec.toNat_ofNat, BitVec.toNat_ofNat, Nat.mod_eq_of_lt (by omega), Nat.mod_eq_of_lt (by omega)]
  show IntKind.i64.wrap ((BitVec.ofInt 64 (a : Int) ||| BitVec.ofInt 64 (b : Int)).toNat : Int) = _
  rw [e1, e2, e3, IntKind.wrap_i64]
  omega
theorem or_add (a m k : Nat) (ha : a < 2 ^ k) : a ||| m * 2 ^ k = m * 2 ^ k + a := by
  have := Nat.shiftLeft_add_eq_or_of_lt ha m
  rw [Nat.shiftLeft_eq] at this
  rw [this, Nat.or_comm]
theorem le1 (x : UInt8) : bits BinOp.or IntKind.i64 0 (byt x) = ((x.toNat : Nat) : Int) := by
  have hx := x.toNat_lt
  have := or_nat 0 x.toNat (by omega) (by omega)
  rw [Nat.zero_or] at this
  exact this
theorem le2 (x y : UInt8) : bits BinOp.or IntKind.i64 (bits BinOp.or IntKind.i64 0 (byt x)) (byt y * 256) = ((y.toNat * 256 + x.toNat : Nat) : Int) := by
  have hx := x.toNat_lt; have hy := y.toNat_lt
  rw [le1, show byt y * 256 = ((y.toNat * 256 : Nat) : Int) by unfold byt; omega, or_nat _ _ (by omega) (by omega)]
  have := or_add x.toNat y.toNat 8 (by omega)
  rw [show (2 : Nat) ^ 8 = 256 from rfl] at this
  rw [this]
theorem le3 (x y z : UInt8) : bits BinOp.or IntKind.i64 (bits BinOp.or IntKind.i64 (bits BinOp.or IntKind.i64 0 (byt x)) (byt y * 256)) (byt z * 65536) = ((z.toNat * 65536 + (y.toNat * 256 + x.toNat) : Nat) : Int) := by
  have hx := x.toNat_lt; have hy := y.toNat_lt; have hz := z.toNat_lt
  rw [le2, show byt z * 65536 = ((z.toNat * 65536 : Nat) : Int) by unfold byt; omega, or_nat _ _ (by omega) (by omega)]
  have := or_add (y.toNat * 256 + x.toNat) z.toNat 16 (by omega)
  rw [show (2 : Nat) ^ 16 = 65536 from rfl] at this
  rw [this]
theorem le4 (x y z u : UInt8) : bits BinOp.or IntKind.i64 (bits BinOp.or IntKind.i64 (bits BinOp.or IntKind.i64 (bits BinOp.or IntKind.i64 0 (byt x)) (byt y * 256)) (byt z * 65536)) (byt u * 16777216) = ((u.toNat * 16777216 + (z.toNat * 65536 + (y.toNat * 256 + x.toNat)) : Nat) : Int) := by
  have hx := x.toNat_lt; have hy := y.toNat_lt; have hz := z.toNat_lt; have hu := u.toNat_lt
  rw [le3, show byt u * 16777216 = ((u.toNat * 16777216 : Nat) : Int) by unfold byt; omega, or_nat _ _ (by omega) (by omega)]
  have := or_add (z.toNat * 65536 + (y.toNat * 256 + x.toNat)) u.toNat 24 (by omega)
  rw [show (2 : Nat) ^ 24 = 16777216 from rfl] at this
  rw [this]
theorem leV2 (x y : UInt8) : leV [x, y] = y.toNat * 256 + x.toNat := by simp only [leV]; omega
theorem leV4 (x y z u : UInt8) : leV [x, y, z, u] = u.toNat * 16777216 + (z.toNat * 65536 + (y.toNat * 256 + x.toNat)) := by simp only [leV]; omega

set_option maxHeartbeats 1000000 in
theorem number_two (a : Option Addr) (n cap p : Nat) (bs : List UInt8) (hl : bs.length = n) (hn : n ≤ 1099511627776) (hcap : n ≤ cap) (hnil : a = none → n = 0 ∧ cap = 0) (h : p + 2 ≤ n) (w : World) (hb : Bytes w a bs) :
    Calls Try.prog 25 #[.slice a n cap, .int .i64 p, .int .i64 2] w fun e w' => e = .returned (.tuple #[.int .i64 (leV ((bs.drop p).take 2) : Nat), .bool true]) ∧ w' = w := by
  have HP := Lib.hid (part_yes a n cap p 2 bs hl hn hcap hnil h w hb)
  clear hl hb hnil h
  generalize (bs.drop p).take 2 = L at HP ⊢
  go_enter Try.func25, Try.ntmps25
  go_wp2_with fail
  refine HP.out.mono ?_
  rintro e w1 ⟨⟨v, rfl, ad, c, rfl, hl2, hc, _, hb⟩, rfl⟩
  obtain ⟨x, y, rfl⟩ := two_of hl2
  obtain ⟨b, o, rfl, hcell⟩ := bytes_some hb
  have d0 : w1.cell? ⟨b, o, none⟩ = some (.int .u8 (byt x)) := hcell 0 x rfl
  have d1 : w1.cell? ⟨b, o + 1, none⟩ = some (.int .u8 (byt y)) := hcell 1 y rfl
  clear hl2 hb hcell HP
  have b0 := byt_nonneg x; have b1 := byt_nonneg y
  have u0 := byt_lt x; have u1 := byt_lt y
  go_wp2_with fail
  refine wp_loop_rounds 3 ?_
  rw [rounds_succ]
  go_wp2
  rw [rounds_succ]
  go_wp2
  rw [rounds_succ]
  go_wp2
  go_ret2
  refine ⟨?_, rfl⟩
  rw [leV2, ← le2]; rfl

set_option maxHeartbeats 1000000 in
theorem number_four (a : Option Addr) (n cap p : Nat) (bs : List UInt8) (hl : bs.length = n) (hn : n ≤ 1099511627776) (hcap : n ≤ cap) (hnil : a = none → n = 0 ∧ cap = 0) (h : p + 4 ≤ n) (w : World) (hb : Bytes w a bs) :
    Calls Try.prog 25 #[.slice a n cap, .int .i64 p, .int .i64 4] w fun e w' => e = .returned (.tuple #[.int .i64 (leV ((bs.drop p).take 4) : Nat), .bool true]) ∧ w' = w := by
  have HP := Lib.hid (part_yes a n cap p 4 bs hl hn hcap hnil h w hb)
  clear hl hb hnil h
  generalize (bs.drop p).take 4 = L at HP ⊢
  go_enter Try.func25, Try.ntmps25
  go_wp2_with fail
  refine HP.out.mono ?_
  rintro e w1 ⟨⟨v, rfl, ad, c, rfl, hl2, hc, _, hb⟩, rfl⟩
  obtain ⟨x, y, z, u, rfl⟩ := four_of hl2
  obtain ⟨b, o, rfl, hcell⟩ := bytes_some hb
  have d0 : w1.cell? ⟨b, o, none⟩ = some (.int .u8 (byt x)) := hcell 0 x rfl
  have d1 : w1.cell? ⟨b, o + 1, none⟩ = some (.int .u8 (byt y)) := hcell 1 y rfl
  have d2 : w1.cell? ⟨b, o + 2, none⟩ = some (.int .u8 (byt z)) := hcell 2 z rfl
  have d3 : w1.cell? ⟨b, o + 3, none⟩ = some (.int .u8 (byt u)) := hcell 3 u rfl
  have b2 := byt_nonneg z; have b3 := byt_nonneg u
  have u2 := byt_lt z; have u3 := byt_lt u
  clear hl2 hb hcell HP
  have b0 := byt_nonneg x; have b1 := byt_nonneg y
  have u0 := byt_lt x; have u1 := byt_lt y
  go_wp2_with fail
  refine wp_loop_rounds 5 ?_
  rw [rounds_succ]
  go_wp2
  rw [rounds_succ]
  go_wp2
  rw [rounds_succ]
  go_wp2
  rw [rounds_succ]
  go_wp2
  rw [rounds_succ]
  go_wp2
  go_ret2
  refine ⟨?_, rfl⟩
  rw [leV4, ← le4]; rfl

theorem refNumber_no (a : Option Addr) (n cap : Nat) (p : Int) (k : Nat) (hk : k ≤ 4) (hn : n ≤ 1099511627776) (h : ¬ fits n p k) (w : World) :
    Calls Try.prog 17 #[.slice a n cap, .int .i64 p, .int .i64 k] w fun e w' => e = .returned (.tuple #[.int .i64 0, .bool false]) ∧ w' = w := by
  have HH := Lib.hid h
  clear h
  by_cases h1 : p < 0
  · go_enter Try.func17, Try.ntmps17
    go_wp2
    go_ret2
    exact ⟨rfl, rfl⟩
  have h4 : (n : Int) - (k : Int) < p := by
    have := HH.out; unfold fits at this; omega
  go_enter Try.func17, Try.ntmps17
  go_wp2
  go_ret2
  exact ⟨rfl, rfl⟩
end Go.Proofs.Ytgapahmjcladlaa
