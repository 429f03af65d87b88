/- The walk of CrcZeros: it returns true for every sum and all counts. -/
import Derived.Test.YtmdmjnehhgdjaaaAlive
namespace Go.Proofs.Ytmdmjnehhgdjaaa
open Go.RowKit Math

attribute [local go_sem] bits_xor bits_and bits_and_one bits_and_poly bits_xor_poly bits_not bits_not' signed_u32 num_shr num_half num_div256 num_neg bits_idx bits_idx' conv_byt

theorem join_none (x : B32) (w : World) : Calls Try.prog 15 #[.int .u32 (num x), .int .u32 0, .int .i64 0] w fun e w' => e = .returned (.int .u32 (num x)) ∧ Below w.heap.size w w' :=
  (join_any x 0#32 0 (by decide) w).mono fun e w' h => ⟨by rw [h.1]; exact congrArg (fun y => Ending.returned (.int .u32 (num y))) (join_zero x), h.2⟩
theorem zeros_twice (x : B32) (n m : Int) (h0 : 0 ≤ n) (h1 : 0 ≤ m) (hm : m ≤ 9223372036854775807) (w : World) :
    Calls Try.prog 13 #[.int .u32 (num (zeros x n.toNat)), .int .i64 m] w fun e w' => e = .returned (.int .u32 (num (zeros x (n + m).toNat))) ∧ Below w.heap.size w w' :=
  (zeros_any (zeros x n.toNat) m hm w).mono fun e w' h => ⟨by rw [h.1, zeros_zeros, show n.toNat + m.toNat = (n + m).toNat by omega], h.2⟩
theorem zeros_none (n : Int) (hn : n ≤ 9223372036854775807) (w : World) :
    Calls Try.prog 13 #[.int .u32 0, .int .i64 n] w fun e w' => e = .returned (.int .u32 (num (zeros 0#32 n.toNat))) ∧ Below w.heap.size w w' := zeros_any 0#32 n hn w
theorem join_noughts (x : B32) (n : Int) (hn : n ≤ 9223372036854775807) (w : World) :
    Calls Try.prog 15 #[.int .u32 (num x), .int .u32 (num (zeros 0#32 n.toNat)), .int .i64 n] w fun e w' => e = .returned (.int .u32 (num (zeros x n.toNat))) ∧ Below w.heap.size w w' :=
  (join_any x _ n hn w).mono fun e w' h => ⟨by rw [h.1, join_zeros], h.2⟩

set_option maxHeartbeats 400000 in
theorem lawZ_out (x : B32) (n m : Int) (hx : n < 0 ∨ 0 ≤ n ∧ m < 0 ∨ 0 ≤ n ∧ 0 ≤ m ∧ 1152921504606846976 < n ∨ 0 ≤ n ∧ 0 ≤ m ∧ n ≤ 1152921504606846976 ∧ 1152921504606846976 < m) (w : World) :
    Calls Try.prog 6 #[.int .u32 (num x), .int .i64 n, .int .i64 m] w fun e w' => e = .returned (.bool true) ∧ Below w.heap.size w w' := by
  rcases hx with h1 | ⟨h1, h2⟩ | ⟨h1, h2, h3⟩ | ⟨h1, h2, h3, h4⟩
  all_goals
    go_enter Try.func6, Try.ntmps6
    go_wp2_with (first
      | (go_at_call 8; refine (alive_any _).mono ?_; rintro e w1 ⟨rfl, hb1⟩)
      | (go_at_call 15; refine (join_none x _).mono ?_; rintro e w2 ⟨rfl, hb2⟩))
    go_ret
    exact ⟨rfl, hb1.trans (hb2.mono hb1.size)⟩

set_option maxHeartbeats 400000 in
theorem lawZ_in (x : B32) (n m : Int) (h1 : 0 ≤ n) (h2 : 0 ≤ m) (h3 : n ≤ 1152921504606846976) (h4 : m ≤ 1152921504606846976) (w : World) :
    Calls Try.prog 6 #[.int .u32 (num x), .int .i64 n, .int .i64 m] w fun e w' => e = .returned (.bool true) ∧ Below w.heap.size w w' := by
  have tok1 : True := trivial
  have tok2 : True := trivial
  have tok3 : True := trivial
  go_enter Try.func6, Try.ntmps6
  go_wp2_with fail
  refine (alive_any _).mono ?_
  rintro e w1 ⟨rfl, hb1⟩
  go_wp2_with fail
  refine (zeros_any x n (by omega) _).mono ?_
  rintro e w2 ⟨rfl, hb2⟩
  go_wp2_with fail
  refine (zeros_twice x n m h1 h2 (by omega) _).mono ?_
  rintro e w3 ⟨rfl, hb3⟩
  go_wp2_with fail
  refine (zeros_any x (n + m) (by omega) _).mono ?_
  rintro e w4 ⟨rfl, hb4⟩
  go_wp2_with fail
  refine (join_none x _).mono ?_
  rintro e w5 ⟨rfl, hb5⟩
  go_wp2_with fail
  refine (zeros_none n (by omega) _).mono ?_
  rintro e w6 ⟨rfl, hb6⟩
  go_wp2_with fail
  refine (join_noughts x n (by omega) _).mono ?_
  rintro e w7 ⟨rfl, hb7⟩
  go_wp2_with fail
  refine (zeros_any x n (by omega) _).mono ?_
  rintro e w8 ⟨rfl, hb8⟩
  go_wp2_with fail
  go_ret
  refine ⟨rfl, ?_⟩
  have b2 := hb1.trans (hb2.mono hb1.size)
  have b3 := b2.trans (hb3.mono b2.size)
  have b4 := b3.trans (hb4.mono b3.size)
  have b5 := b4.trans (hb5.mono b4.size)
  have b6 := b5.trans (hb6.mono b5.size)
  have b7 := b6.trans (hb7.mono b6.size)
  exact b7.trans (hb8.mono b7.size)

theorem lawZ (x : B32) (n m : Int) (w : World) :
    Calls Try.prog 6 #[.int .u32 (num x), .int .i64 n, .int .i64 m] w fun e w' => e = .returned (.bool true) ∧ Below w.heap.size w w' := by
  by_cases h : 0 ≤ n ∧ 0 ≤ m ∧ n ≤ 1152921504606846976 ∧ m ≤ 1152921504606846976
  · exact lawZ_in x n m h.1 h.2.1 h.2.2.1 h.2.2.2 w
  · exact lawZ_out x n m (by omega) w
end Go.Proofs.Ytmdmjnehhgdjaaa
