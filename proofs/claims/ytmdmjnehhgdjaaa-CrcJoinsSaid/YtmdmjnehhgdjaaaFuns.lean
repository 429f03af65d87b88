/- Update, Sum, Zeros, Join and the reference's three functions: what each call computes, for every input. -/
import Derived.Test.YtmdmjnehhgdjaaaZeros
namespace Go.Proofs.Ytmdmjnehhgdjaaa
open Go.RowKit Math

attribute [local go_sem] bits_xor bits_and bits_and_one bits_and_poly bits_xor_poly bits_not bits_not' signed_u32 num_shr num_half num_div256 num_neg bits_idx bits_idx' conv_byt

theorem zeros_eq (x : B32) (n : Nat) : zeros x n = Nt (it (8 * n) (Nt x)) := rfl
theorem join_eq (x y : B32) (n : Nat) : join x y n = X (it (8 * n) x) y := rfl
theorem update_eq (x : B32) (bs : List UInt8) : update x bs = Nt (upd (Nt x) bs) := rfl

set_option maxHeartbeats 400000 in
set_option maxRecDepth 100000 in
theorem update_any (x : B32) (a : Option Addr) (bs : List UInt8) (cap : Nat) (hlen : bs.length ≤ 9223372036854775807) (w : World) (hb : Bytes w a bs) :
    Calls Try.prog 11 #[.int .u32 (num x), .slice a bs.length cap] w fun e w' => e = .returned (.int .u32 (num (update x bs))) ∧ Below w.heap.size w w' := by
  go_enter Try.func11, Try.ntmps11
  go_wp2_with (first
    | (go_at_call 19; refine (table_any _).mono ?_; rintro e w1 ⟨rfl, hb1⟩)
    | (refine wpList_alloc_arr rfl 41 256 (.int .u32 0) rfl z41 ?_; intro w2 hs2 hr2 hb2)
    | (refine wpList_store_arr rfl 41 (.tmp 5) (.tmp 6) rfl w1.heap.size 256 _ (fun i => u32 (tab i)) 41 rfl rfl hr2 s41 (fun _ _ => rfl) ?_; intro w3 hs3 hr3 hb3; have hbb := (hb1.trans (hb2.mono hb1.size)).grown hb3 (Nat.le_trans hb1.size hb2.size) (fun k e => by injection e with e; rw [← e]; exact hb1.size); have hbw := Bytes.below hb hbb)
    | (go_at_call 20; refine (step_any w1.heap.size cap a bs hlen (Nt x) _ (fun i hi => hr3.cell hi) hbw).mono ?_; rintro e w4 ⟨rfl, rfl⟩))
  go_ret
  refine ⟨?_, hbb⟩
  rw [update_eq]; rfl

theorem update_zero (a : Option Addr) (bs : List UInt8) (cap : Nat) (hlen : bs.length ≤ 9223372036854775807) (w : World) (hb : Bytes w a bs) :
    Calls Try.prog 11 #[.int .u32 0, .slice a bs.length cap] w fun e w' => e = .returned (.int .u32 (num (sum bs))) ∧ Below w.heap.size w w' :=
  update_any 0#32 a bs cap hlen w hb

theorem sum_any (a : Option Addr) (bs : List UInt8) (cap : Nat) (hlen : bs.length ≤ 9223372036854775807) (w : World) (hb : Bytes w a bs) :
    Calls Try.prog 9 #[.slice a bs.length cap] w fun e w' => e = .returned (.int .u32 (num (sum bs))) ∧ Below w.heap.size w w' := by
  go_enter Try.func9, Try.ntmps9
  go_wp2_with (go_at_call 11; refine (update_zero a bs cap hlen _ hb).mono ?_; rintro e w1 ⟨rfl, hb1⟩)
  go_ret
  exact ⟨rfl, hb1⟩

theorem zeros_any (x : B32) (n : Int) (hn : n ≤ 9223372036854775807) (w : World) :
    Calls Try.prog 13 #[.int .u32 (num x), .int .i64 n] w fun e w' => e = .returned (.int .u32 (num (zeros x n.toNat))) ∧ Below w.heap.size w w' := by
  go_enter Try.func13, Try.ntmps13
  go_wp2_with (go_at_call 22; refine (shift_any (Nt x) n hn _).mono ?_; rintro e w1 ⟨rfl, hb1⟩)
  go_ret
  refine ⟨?_, hb1⟩
  rw [zeros_eq]; rfl

theorem join_any (x y : B32) (n : Int) (hn : n ≤ 9223372036854775807) (w : World) :
    Calls Try.prog 15 #[.int .u32 (num x), .int .u32 (num y), .int .i64 n] w fun e w' => e = .returned (.int .u32 (num (join x y n.toNat))) ∧ Below w.heap.size w w' := by
  go_enter Try.func15, Try.ntmps15
  go_wp2_with (go_at_call 22; refine (shift_any x n hn _).mono ?_; rintro e w1 ⟨rfl, hb1⟩)
  go_ret
  refine ⟨?_, hb1⟩
  rw [join_eq]; rfl

/-! ### The reference -/
theorem one_half (x : B32) : (if x.getLsbD 0 then X (R x 1) poly else R x 1) = half x := rfl
theorem bit_one (x : B32) (h : x.getLsbD 0 = true) : A x 1#32 = 1#32 := by
  unfold A
  apply BitVec.eq_of_getLsbD_eq
  intro i hi
  rw [BitVec.getLsbD_and]
  cases i with
  | zero => simp_all
  | succ j => simp [BitVec.getLsbD_one]
theorem bit_zero (x : B32) (h : x.getLsbD 0 = false) : A x 1#32 = 0#32 := by
  unfold A
  apply BitVec.eq_of_getLsbD_eq
  intro i hi
  rw [BitVec.getLsbD_and]
  cases i with
  | zero => simp_all
  | succ j => simp [BitVec.getLsbD_one]

set_option maxHeartbeats 400000 in
theorem one_any (x : B32) (c : UInt8) (w : World) :
    Calls Try.prog 21 #[.int .u32 (num x), .int .u8 (byt c)] w fun e w' => e = .returned (.int .u32 (num (feed x c))) ∧ w = w' := by
  go_enter Try.func21, Try.ntmps21
  go_wp2
  go_loop [0, 5, 6] (fun y i _ => ∃ k : Nat, k ≤ 8 ∧ i = .int .i64 k ∧ y = .int .u32 (num (it k (X x (byte c))))) (fun _ i _ => 8 - (intOf i).toNat)
  case atStart => exact ⟨0, by omega, rfl, rfl⟩
  case round =>
    obtain ⟨k, hk, rfl, rfl⟩ := hrel
    obtain ⟨y, hy⟩ : ∃ y, y = it k (X x (byte c)) := ⟨_, rfl⟩
    have hn : it (k + 1) (X x (byte c)) = half y := by rw [it_succ', hy]
    rw [← hy]
    have HY := Lib.hid hy
    have HN := Lib.hid hn
    clear hy hn
    by_cases hlt : k < 8
    · cases hbit : y.getLsbD 0 with
      | true =>
        have h1 : num (A y 1#32) = 1 := by rw [bit_one y hbit]; rfl
        have HB := Lib.hid hbit
        clear hbit
        go_wp2
        go_round
        case rel => exact ⟨k + 1, by omega, by go_num, by rw [HN.out, ← one_half, if_pos HB.out]⟩
        case measure => simp [intOf]; omega
      | false =>
        have h1 : num (A y 1#32) = 0 := by rw [bit_zero y hbit]; rfl
        have HB := Lib.hid hbit
        clear hbit
        go_wp2
        go_round
        case rel => exact ⟨k + 1, by omega, by go_num, by rw [HN.out, ← one_half, if_neg (by rw [HB.out]; decide)]⟩
        case measure => simp [intOf]; omega
    · go_wp2
      go_ret
      have : k = 8 := by omega
      subst this
      exact ⟨by rw [HY.out]; rfl, rfl⟩

set_option maxHeartbeats 400000 in
theorem refUpdate_any (x : B32) (a : Option Addr) (bs : List UInt8) (cap : Nat) (hlen : bs.length ≤ 9223372036854775807) (w : World) (hb : Bytes w a bs) :
    Calls Try.prog 12 #[.int .u32 (num x), .slice a bs.length cap] w fun e w' => e = .returned (.int .u32 (num (update x bs))) ∧ w = w' := by
  obtain ⟨n, hn⟩ : ∃ n, n = bs.length := ⟨_, rfl⟩
  rw [← hn] at hlen ⊢
  have HN := Lib.hid hn
  have HB := Lib.hid hb
  clear hn hb
  go_enter Try.func12, Try.ntmps12
  go_wp2
  go_loop [5, 6] (fun y i => ∃ k : Nat, k ≤ n ∧ i = .int .i64 k ∧ y = .int .u32 (num (upd (Nt x) (bs.take k)))) (fun _ i => n - (intOf i).toNat)
  case atStart => exact ⟨0, by omega, rfl, rfl⟩
  case round =>
    obtain ⟨k, hk, rfl, rfl⟩ := hrel
    by_cases hlt : k < n
    · obtain ⟨c, hc⟩ : ∃ c, bs[k]? = some c := ⟨bs[k]'(by have := HN.out; omega), List.getElem?_eq_getElem _⟩
      have hs : upd (Nt x) (bs.take (k + 1)) = feed (upd (Nt x) (bs.take k)) c := by rw [List.take_add_one, hc]; exact upd_snoc _ _ _
      have HS := Lib.hid hs
      clear hs
      rcases HB.out with h | ⟨b, o, rfl, hcell⟩
      · rw [h] at hc; simp at hc
      · have hcell := hcell k c hc
        clear hc
        obtain ⟨y, hy⟩ : ∃ y, y = upd (Nt x) (bs.take k) := ⟨_, rfl⟩
        rw [← hy] at HS ⊢
        clear hy
        go_wp2_with (go_at_call 21; refine (one_any y c _).mono ?_; rintro e w1 ⟨rfl, rfl⟩)
        go_round
        case rel => exact ⟨k + 1, by omega, by go_num, by rw [HS.out]⟩
        case measure => simp [intOf]; omega
    · go_wp2
      go_ret
      have : k = n := by omega
      subst this
      exact ⟨by rw [HN.out, List.take_length, update_eq]; rfl, rfl⟩

theorem refUpdate_zero (a : Option Addr) (bs : List UInt8) (cap : Nat) (hlen : bs.length ≤ 9223372036854775807) (w : World) (hb : Bytes w a bs) :
    Calls Try.prog 12 #[.int .u32 0, .slice a bs.length cap] w fun e w' => e = .returned (.int .u32 (num (sum bs))) ∧ w = w' :=
  refUpdate_any 0#32 a bs cap hlen w hb

theorem refSum_any (a : Option Addr) (bs : List UInt8) (cap : Nat) (hlen : bs.length ≤ 9223372036854775807) (w : World) (hb : Bytes w a bs) :
    Calls Try.prog 10 #[.slice a bs.length cap] w fun e w' => e = .returned (.int .u32 (num (sum bs))) ∧ w = w' := by
  go_enter Try.func10, Try.ntmps10
  go_wp2_with (go_at_call 12; refine (refUpdate_zero a bs cap hlen _ hb).mono ?_; rintro e w1 ⟨rfl, rfl⟩)
  go_ret
  exact ⟨rfl, rfl⟩
end Go.Proofs.Ytmdmjnehhgdjaaa
