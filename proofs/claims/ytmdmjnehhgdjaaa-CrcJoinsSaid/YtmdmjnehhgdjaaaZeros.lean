/- The inner number behind so many nought bytes, for every number and every count: what the call computes. -/
import Derived.Test.YtmdmjnehhgdjaaaShift
import Derived.Maps.RangeWalk
namespace Go.Proofs.Ytmdmjnehhgdjaaa
open Go.RowKit Math

attribute [local go_sem] bits_xor bits_and bits_and_one bits_and_poly bits_xor_poly bits_not bits_not' signed_u32 num_shr num_half num_div256 num_neg bits_idx bits_idx' conv_byt

theorem and_one (m : Nat) (h : m < 9223372036854775808) : bits .and .i64 (m : Int) 1 = ((m % 2 : Nat) : Int) := by
  have := bits_mask .i64 63 (by decide) (fun n h0 h1 => by rw [IntKind.wrap_i64]; omega) 1 (by decide) (m : Int) (by omega) (by omega)
  simpa using this

/-- What is left to do: so many noughts more, by a map of so many bits. -/
def Left (x y : B32) (n t m : Nat) : Prop := it (t * m) y = it (8 * n) x

theorem left_odd {x y : B32} {n t m : Nat} (h : Left x y n t m) (hm : m % 2 = 1) : Left x (it t y) n (t + t) (m / 2) := by
  unfold Left at h ⊢
  rw [← h, ← it_add]
  congr 1
  have : m = 2 * (m / 2) + 1 := by omega
  generalize m / 2 = q at this
  subst this
  rw [Nat.mul_add, Nat.mul_left_comm, Nat.add_mul, Nat.mul_one]; generalize t * q = p; omega
theorem left_even {x y : B32} {n t m : Nat} (h : Left x y n t m) (hm : m % 2 = 0) : Left x y n (t + t) (m / 2) := by
  unfold Left at h ⊢
  rw [← h]
  congr 1
  have : m = 2 * (m / 2) := by omega
  generalize m / 2 = q at this
  subst this
  rw [Nat.mul_left_comm, Nat.add_mul]; generalize t * q = p; omega

/-- The columns of t halvings. -/
def colOf (t : Nat) (k : Nat) : B32 := it t (BitVec.ofNat 32 (2 ^ k))
theorem cols_colOf (t : Nat) (v : B32) : cols (colOf t) v 32 = it t v := cols_all t _ (fun _ _ => rfl) v

/-- A row of the columns of t halvings, as a slot holds it. -/
def colRow (t : Nat) : Nat → Value := fun k => u32 (colOf t k)
theorem colRow_one (t i : Nat) : (colRow t i).oneCell' = true := rfl

theorem twice_col (t : Nat) (w : World) :
    Calls Try.prog 25 #[.agg (arr 32 (colRow t))] w fun e w' => e = .returned (.agg (arr 32 (colRow (t + t)))) ∧ Below w.heap.size w w' := by
  have h := twice_any (colOf t) w
  have e : (arr 32 fun k => u32 (cols (colOf t) (colOf t k) 32)) = arr 32 fun k => u32 (colOf (t + t) k) := arr_congr fun i _ => by
    rw [cols_colOf]; unfold colOf; rw [it_add]
  rw [e] at h
  exact h
theorem of_col (t : Nat) (v : B32) (w : World) :
    Calls Try.prog 24 #[.agg (arr 32 (colRow t)), .int .u32 (num v)] w fun e w' => e = .returned (.int .u32 (num (it t v))) ∧ Below w.heap.size w w' := by
  have h := of_arr (colOf t) v w
  rw [cols_colOf] at h
  exact h

set_option maxHeartbeats 1000000 in
set_option maxRecDepth 100000 in
theorem shift_any (x : B32) (n : Int) (hn : n ≤ 9223372036854775807) (w : World) :
    Calls Try.prog 22 #[.int .u32 (num x), .int .i64 n] w fun e w' => e = .returned (.int .u32 (num (it (8 * n.toNat) x))) ∧ Below w.heap.size w w' := by
  have hl0 : Left x x n.toNat 8 n.toNat := rfl
  go_enter Try.func22, Try.ntmps22
  go_wp2_with (first | (go_at_call 23; refine (nought_any _).mono ?_; rintro e w1 ⟨rfl, hb1⟩) | (refine wpList_alloc_arr rfl 49 32 (.int .u32 0) rfl z49 ?_; intro w2 hs2 hr2 hb2) | (refine wpList_store_arr rfl 49 (.tmp 5) (.tmp 6) rfl w1.heap.size 32 _ (colRow 8) 49 rfl rfl hr2 s49 (fun _ _ => rfl) ?_; intro w3 hs3 hr3 hb3))
  go_frame
  obtain ⟨A, hA⟩ : ∃ A, A = w.heap.size := ⟨_, rfl⟩
  obtain ⟨G, hG⟩ : ∃ G, G = w1.heap.size := ⟨_, rfl⟩
  have hAG : A ≤ G := by rw [hA, hG]; exact hb1.size
  rw [← hA] at hb1
  rw [← hG] at hr2 hb2 hr3 hb3 ⊢
  have hbb := (hb1.trans (hb2.mono hAG)).grown hb3 (by have := hb2.size; omega) (fun k e => by injection e with e; omega)
  have HA := Lib.hid hA
  clear hA hG hs2 hr2 hb1 hb2 hb3 hs3
  go_loopw [0, 1, 5] (fun y z p wr => ∃ (v : B32) (q : Int) (t g : Nat), y = .int .u32 (num v) ∧ z = .int .i64 q ∧ p = .pointer (some ⟨g, 0, none⟩) ∧ q ≤ 9223372036854775807 ∧ Left x v n.toNat t q.toNat ∧ A ≤ g ∧ wr.rowIs g 49 32 (colRow t) ∧ Below A w wr) (fun _ z _ _ => (intOf z).toNat)
  case atStart => exact ⟨x, n, 8, G, rfl, rfl, rfl, hn, hl0, hAG, hr3, hbb⟩
  case round =>
    clear hr3 hbb hl0
    obtain ⟨v, q, t, g, rfl, rfl, rfl, hq, hl, hg, hr, hb⟩ := hrel
    by_cases hpos : 0 < q
    · obtain ⟨m, rfl⟩ := Int.eq_ofNat_of_zero_le (Int.le_of_lt hpos)
      have hand := and_one m (by omega)
      rw [Int.toNat_natCast] at hl
      by_cases hm : m % 2 = 1
      · rw [hm] at hand
        have hl' := left_odd hl hm
        clear hl hm
        go_wp2_with (first
          | (refine wpList_load_arr rfl 49 (.tmp 5) rfl g 32 (colRow t) 49 _ rfl (by assumption) Try.underlying49 rfl s49 ?_)
          | (refine wpList_load_arr rfl 49 (.tmp 5) rfl g 32 (colRow (t + t)) 49 _ rfl (by assumption) Try.underlying49 rfl s49 ?_)
          | (go_at_call 24; refine (of_col t v _).mono ?_; rintro e w4 ⟨rfl, hb4⟩; have hr4 := rowIs_below hr hb4 hr.lt)
          | (go_at_call 25; refine (twice_col t _).mono ?_; rintro e w5 ⟨rfl, hb5⟩; have hr5 := rowIs_below hr4 hb5 hr4.lt)
          | (refine wpList_store_arr rfl 49 (.tmp 5) (.tmp 18) rfl g 32 _ (colRow (t + t)) 49 rfl rfl hr5 s49 (fun _ _ => rfl) ?_; intro w6 hs6 hr6 hb6)
          | (refine wpList_alloc_arr rfl 49 32 (.int .u32 0) rfl z49 ?_; intro w7 hs7 hr7 hb7)
          | (refine wpList_store_arr rfl 49 (.tmp 5) (.tmp 19) rfl w6.heap.size 32 _ (colRow (t + t)) 49 rfl rfl hr7 s49 (fun _ _ => rfl) ?_; intro w8 hs8 hr8 hb8))
        go_roundw
        case rel =>
          have b4 := hb.trans (hb4.mono (by rw [HA.out]; exact hb.size))
          have b5 := b4.trans (hb5.mono (by rw [HA.out]; exact b4.size))
          have b6 := b5.grown hb6 (by rw [HA.out]; exact b5.size) (fun k e => by injection e with e; omega)
          have b7 := b6.trans (hb7.mono (by rw [HA.out]; exact b6.size))
          have b8 := b7.grown hb8 (by rw [HA.out]; exact b7.size) (fun k e => by injection e with e; rw [← e, HA.out]; exact b6.size)
          exact ⟨it t v, (m / 2 : Nat), t + t, w6.heap.size, rfl, by go_num, rfl, by omega, by rw [Int.toNat_natCast]; exact hl', by rw [HA.out]; exact b6.size, hr8, b8⟩
        case measure => simp [intOf]; omega
      · obtain hm : m % 2 = 0 := by omega
        rw [hm] at hand
        have hl' := left_even hl hm
        clear hl hm
        go_wp2_with (first
          | (refine wpList_load_arr rfl 49 (.tmp 5) rfl g 32 (colRow t) 49 _ rfl (by assumption) Try.underlying49 rfl s49 ?_)
          | (refine wpList_load_arr rfl 49 (.tmp 5) rfl g 32 (colRow (t + t)) 49 _ rfl (by assumption) Try.underlying49 rfl s49 ?_)
          | (go_at_call 25; refine (twice_col t _).mono ?_; rintro e w5 ⟨rfl, hb5⟩; have hr5 := rowIs_below hr hb5 hr.lt)
          | (refine wpList_store_arr rfl 49 (.tmp 5) (.tmp 18) rfl g 32 _ (colRow (t + t)) 49 rfl rfl hr5 s49 (fun _ _ => rfl) ?_; intro w6 hs6 hr6 hb6)
          | (refine wpList_alloc_arr rfl 49 32 (.int .u32 0) rfl z49 ?_; intro w7 hs7 hr7 hb7)
          | (refine wpList_store_arr rfl 49 (.tmp 5) (.tmp 19) rfl w6.heap.size 32 _ (colRow (t + t)) 49 rfl rfl hr7 s49 (fun _ _ => rfl) ?_; intro w8 hs8 hr8 hb8))
        go_roundw
        case rel =>
          have b4 := hb
          have b5 := b4.trans (hb5.mono (by rw [HA.out]; exact b4.size))
          have b6 := b5.grown hb6 (by rw [HA.out]; exact b5.size) (fun k e => by injection e with e; omega)
          have b7 := b6.trans (hb7.mono (by rw [HA.out]; exact b6.size))
          have b8 := b7.grown hb8 (by rw [HA.out]; exact b7.size) (fun k e => by injection e with e; rw [← e, HA.out]; exact b6.size)
          exact ⟨v, (m / 2 : Nat), t + t, w6.heap.size, rfl, by go_num, rfl, by omega, by rw [Int.toNat_natCast]; exact hl', by rw [HA.out]; exact b6.size, hr8, b8⟩
        case measure => simp [intOf]; omega
    · go_wp2
      go_ret
      refine ⟨?_, ?_⟩
      · have hz : q.toNat = 0 := by omega
        rw [hz] at hl
        show Ending.returned (.int .u32 (num v)) = _
        rw [← hl]; rfl
      · rw [← HA.out]; exact hb
end Go.Proofs.Ytmdmjnehhgdjaaa
