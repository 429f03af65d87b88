/- The walk of CrcSums: it returns true for all bytes, every sum and every count. -/
import Derived.Test.YtmdmjnehhgdjaaaArgs
import Derived.Deep.RegionWith
namespace Go.Proofs.Ytmdmjnehhgdjaaa
open Go.RowKit Math Go.Sort

attribute [local go_sem] bits_xor bits_and bits_and_one bits_and_poly bits_xor_poly bits_not bits_not' signed_u32 num_shr num_half num_div256 num_neg bits_idx bits_idx' conv_byt

set_option maxHeartbeats 400000 in
theorem lawS_out (bs : List UInt8) (a : Option Addr) (cap : Nat) (x : B32) (n : Int) (hx : 5000 < bs.length ∨ bs.length ≤ 5000 ∧ 5000 < n) (w : World) :
    Calls Try.prog 3 #[.slice a bs.length cap, .int .u32 (num x), .int .i64 n] w fun e w' => e = .returned (.bool true) ∧ Below w.heap.size w w' := by
  rcases hx with h1 | ⟨h1, h2⟩
  all_goals
    go_enter Try.func3, Try.ntmps3
    go_wp2_with (go_at_call 8; refine (alive_any _).mono ?_; rintro e w1 ⟨rfl, hb1⟩)
    go_ret
    exact ⟨rfl, hb1⟩

theorem below_step {a w w' : World} (h : Below a.heap.size a w) (k : Below w.heap.size w w') : Below a.heap.size a w' := h.trans (k.mono h.size)
theorem below_alloc {a w : World} (h : Below a.heap.size a w) (o : Obj) : Below a.heap.size a (w.alloc o) := h.alloc h.size o
theorem Bytes.alloc {w : World} {a : Option Addr} {bs : List UInt8} (h : Bytes w a bs) (o : Obj) : Bytes (w.alloc o) a bs := h.below ((Below.refl _ _).alloc (Nat.le_refl _) _)
theorem bytes_made (w : World) (m : Nat) : Bytes (w.alloc (.cells (madeCells #[.int .u8 0] m) 5)) (some ⟨w.heap.size, 0, none⟩) (List.replicate m 0) := by
  refine .inr ⟨_, 0, rfl, fun i c hc => ?_⟩
  have hi : i < m := by
    rcases Nat.lt_or_ge i m with h | h
    · exact h
    · rw [List.getElem?_eq_none (by simpa using h)] at hc; simp at hc
  have h := (World.rowIs_made w (.int .u8 0) m 5).cell hi
  rw [Nat.zero_add, h]
  have : c = 0 := by simpa [hi] using hc.symm
  subst this
  rfl
theorem refUpdate_made (x : B32) (n g : Nat) (w : World) (hb : Bytes w (some ⟨g, 0, none⟩) (List.replicate n 0)) (hn : n ≤ 9223372036854775807) :
    Calls Try.prog 12 #[.int .u32 (num x), .slice (some ⟨g, 0, none⟩) n n] w fun e w' => e = .returned (.int .u32 (num (zeros x n))) ∧ w = w' := by
  have h := refUpdate_any x (some ⟨g, 0, none⟩) (List.replicate n 0) n (by rw [List.length_replicate]; exact hn) w hb
  rw [List.length_replicate, ← zeros_update] at h
  exact h
theorem info5 : (Try.prog.info? 5).map (fun i => (i.zero, i.size, i.bytes)) = some (some (.int .u8 0), 1, 1) := by kernel_rfl

set_option maxHeartbeats 1000000 in
theorem lawS_pos (bs : List UInt8) (a : Option Addr) (cap : Nat) (x : B32) (n : Nat) (h1 : bs.length ≤ 5000) (h2 : n ≤ 5000) (w : World) (hb : Bytes w a bs) :
    Calls Try.prog 3 #[.slice a bs.length cap, .int .u32 (num x), .int .i64 n] w fun e w' => e = .returned (.bool true) ∧ Below w.heap.size w w' := by
  have hmk := run_make_row' (P := Try.prog) 22 5 (.int .u8 0) 1 Try.underlying22 info5 rfl .i64 .i64 n (by omega) (by omega)
  go_enter Try.func3, Try.ntmps3
  go_wp2_with (go_at_call 8; refine (alive_any _).mono ?_; rintro e w1 ⟨rfl, hb1⟩)
  have hb2 : Bytes w1.drew a bs := (hb.below hb1).drew
  have hb3 : Below w.heap.size w w1.drew := hb1.drew
  clear hb hb1
  go_region_with (first
    | (go_at_call 9; refine (sum_any a bs cap (by omega) _ (by assumption)).mono ?_; rintro e W ⟨rfl, hbW⟩; have hnew := Bytes.below (bs := bs) (a := a) (by assumption) hbW; have hbl := below_step (a := w) (by assumption) hbW)
    | (go_at_call 10; refine (refSum_any a bs cap (by omega) _ (by assumption)).mono ?_; rintro e W ⟨rfl, rfl⟩)
    | (go_at_call 11; refine (update_any x a bs cap (by omega) _ (by assumption)).mono ?_; rintro e W ⟨rfl, hbW⟩; have hnew := Bytes.below (bs := bs) (a := a) (by assumption) hbW; have hbl := below_step (a := w) (by assumption) hbW)
    | (go_at_call_of 12 (Value.slice a bs.length cap); refine (refUpdate_any x a bs cap (by omega) _ (by assumption)).mono ?_; rintro e W ⟨rfl, rfl⟩)
    | (go_at_call 13; refine (zeros_any x n (by omega) _).mono ?_; rintro e W ⟨rfl, hbW⟩; have hbl := below_step (a := w) (by first | assumption | (refine below_alloc ?_ _; assumption)) hbW; try have hmd := Bytes.below (bytes_made _ n) hbW)
    | (go_at_call 12; refine (refUpdate_made x n _ _ (by first | exact bytes_made _ _ | assumption) (by omega)).mono ?_; rintro e W ⟨rfl, rfl⟩))
  all_goals
    go_wp2
    go_ret
    refine ⟨rfl, ?_⟩
    first | assumption | (refine below_alloc ?_ _; assumption)
theorem zeros_neg (x : B32) (n : Int) (hn : n < 0) (w : World) :
    Calls Try.prog 13 #[.int .u32 (num x), .int .i64 n] w fun e w' => e = .returned (.int .u32 (num (zeros x 0))) ∧ Below w.heap.size w w' :=
  (zeros_any x n (by omega) w).mono fun e w' h => ⟨by rw [h.1, show n.toNat = 0 by omega], h.2⟩

set_option maxHeartbeats 1000000 in
theorem lawS_neg (bs : List UInt8) (a : Option Addr) (cap : Nat) (x : B32) (n : Int) (h1 : bs.length ≤ 5000) (h2 : n < 0) (w : World) (hb : Bytes w a bs) :
    Calls Try.prog 3 #[.slice a bs.length cap, .int .u32 (num x), .int .i64 n] w fun e w' => e = .returned (.bool true) ∧ Below w.heap.size w w' := by
  have hmk : ∀ w : World, (Instr.makeSlice 22 (.int .i64 0) (.int .i64 0)).run Try.prog w = .ok (.slice (some ⟨w.heap.size, 0, none⟩) 0 0) (w.alloc (.cells (madeCells #[.int .u8 0] 0) 5)) :=
    run_make_row' (P := Try.prog) 22 5 (.int .u8 0) 1 Try.underlying22 info5 rfl .i64 .i64 0 (by omega) (by omega)
  go_enter Try.func3, Try.ntmps3
  go_wp2_with (go_at_call 8; refine (alive_any _).mono ?_; rintro e w1 ⟨rfl, hb1⟩)
  have hb2 : Bytes w1.drew a bs := (hb.below hb1).drew
  have hb3 : Below w.heap.size w w1.drew := hb1.drew
  clear hb hb1
  go_region_with (first
    | (go_at_call 9; refine (sum_any a bs cap (by omega) _ (by assumption)).mono ?_; rintro e W ⟨rfl, hbW⟩; have hnew := Bytes.below (bs := bs) (a := a) (by assumption) hbW; have hbl := below_step (a := w) (by assumption) hbW)
    | (go_at_call 10; refine (refSum_any a bs cap (by omega) _ (by assumption)).mono ?_; rintro e W ⟨rfl, rfl⟩)
    | (go_at_call 11; refine (update_any x a bs cap (by omega) _ (by assumption)).mono ?_; rintro e W ⟨rfl, hbW⟩; have hnew := Bytes.below (bs := bs) (a := a) (by assumption) hbW; have hbl := below_step (a := w) (by assumption) hbW)
    | (go_at_call_of 12 (Value.slice a bs.length cap); refine (refUpdate_any x a bs cap (by omega) _ (by assumption)).mono ?_; rintro e W ⟨rfl, rfl⟩)
    | (go_at_call 13; refine (zeros_neg x n h2 _).mono ?_; rintro e W ⟨rfl, hbW⟩; have hbl := below_step (a := w) (by first | assumption | (refine below_alloc ?_ _; assumption)) hbW; try have hmd := Bytes.below (bytes_made _ 0) hbW)
    | (go_at_call 12; refine (refUpdate_made x 0 _ _ (by first | exact bytes_made _ _ | assumption) (by omega)).mono ?_; rintro e W ⟨rfl, rfl⟩))
  all_goals
    go_wp2
    go_ret
    refine ⟨rfl, ?_⟩
    first | assumption | (refine below_alloc ?_ _; assumption)
theorem lawS (bs : List UInt8) (a : Option Addr) (cap : Nat) (x : B32) (n : Int) (w : World) (hb : Bytes w a bs) :
    Calls Try.prog 3 #[.slice a bs.length cap, .int .u32 (num x), .int .i64 n] w fun e w' => e = .returned (.bool true) ∧ Below w.heap.size w w' := by
  by_cases h : bs.length ≤ 5000 ∧ n ≤ 5000
  · by_cases h0 : n < 0
    · exact lawS_neg bs a cap x n h.1 h0 w hb
    · obtain ⟨m, rfl⟩ := Int.eq_ofNat_of_zero_le (by omega : 0 ≤ n)
      exact lawS_pos bs a cap x m h.1 (by omega) w hb
  · exact lawS_out bs a cap x n (by omega) w
end Go.Proofs.Ytmdmjnehhgdjaaa
