/- A number as two or four bytes: what the call computes. -/
import Derived.Test.YtgapahmjcladlaaCut
import Derived.Deep.OwnRows
namespace Go.Proofs.Ytgapahmjcladlaa
open Go.RowKit
set_option linter.unusedVariables false

/-- A number as so many bytes, the lowest first. -/
def leB (v : Nat) : Nat → List UInt8
  | 0 => []
  | k + 1 => UInt8.ofNat (v % 256) :: leB (v / 256) k
theorem leB_len (v k : Nat) : (leB v k).length = k := by
  induction k generalizing v with
  | zero => rfl
  | succ k ih => simp [leB, ih]
theorem byt_mod (m : Nat) : byt (UInt8.ofNat (m % 256)) = ((m % 256 : Nat) : Int) := by
  unfold byt; rw [UInt8.toNat_ofNat_of_lt' (by show m % 256 < 256; omega)]
theorem leV_leB (v k : Nat) (h : v < 256 ^ k) : leV (leB v k) = v := by
  induction k generalizing v with
  | zero => simp at h; simp [leB, leV, h]
  | succ k ih =>
    have h2 : v / 256 < 256 ^ k := by rw [Nat.pow_succ] at h; omega
    simp only [leB, leV]
    rw [ih _ h2, UInt8.toNat_ofNat_of_lt' (by show v % 256 < 256; omega)]
    omega
theorem leV_lt (l : List UInt8) : leV l < 256 ^ l.length := by
  induction l with
  | nil => simp [leV]
  | cons c l ih =>
    have hc := c.toNat_lt
    simp only [leV, List.length_cons, Nat.pow_succ]
    omega
theorem leB_leV (l : List UInt8) : leB (leV l) l.length = l := by
  induction l with
  | nil => rfl
  | cons c l ih =>
    have hc := c.toNat_lt
    simp only [leV, List.length_cons, leB]
    rw [show (c.toNat + 256 * leV l) / 256 = leV l by omega, ih, show (c.toNat + 256 * leV l) % 256 = c.toNat by omega, UInt8.ofNat_toNat]

theorem leB_two (v : Nat) (hv : v < 4294967296) : (leB v 2).map bval = [.int .u8 ((v : Int) % 256), .int .u8 ((v : Int) / 256 % 256)] := by
  simp only [leB, List.map_cons, List.map_nil, bval]
  congr 1 <;> (try (congr 1; rw [byt_mod]; omega))
  all_goals (repeat (first | rfl | (congr 1 <;> (try (congr 1; rw [byt_mod]; omega)))))
set_option maxHeartbeats 1000000 in
theorem little_two (v : Nat) (hv : v < 4294967296) (w : World) :
    Calls Try.prog 22 #[.int .i64 v, .int .i64 2] w fun e w' => e = .returned (.slice (some ⟨w.heap.size, 0, none⟩) 2 2) ∧ OwnB w' w.heap.size 5 (.slice (some ⟨w.heap.size, 0, none⟩) 2 2) (leB v 2) ∧ Below w.heap.size w w' := by
  have hmk : ∀ w, (Instr.makeSlice 22 (.int .i64 2) (.int .i64 2)).run Try.prog w = .ok (.slice (some ⟨w.heap.size, 0, none⟩) 2 2) (w.alloc (.cells #[.int .u8 0, .int .u8 0] 5)) := fun w => by
    have := run_make_row' (P := Try.prog) 22 5 (.int .u8 0) 1 Try.underlying22 info5 rfl .i64 .i64 2 (by omega) (by omega) w
    rw [show madeCells #[Value.int .u8 0] 2 = #[.int .u8 0, .int .u8 0] from by apply Array.toList_inj.1; rw [toList_madeCells_one]; rfl] at this
    exact this
  go_enter Try.func22, Try.ntmps22
  go_wp2_with fail
  refine wp_loop_rounds 3 ?_
  rw [rounds_succ]
  go_wp2
  rw [rounds_succ]
  go_wp2
  rw [rounds_succ]
  go_wp2
  go_ret
  refine ⟨rfl, ?_, (Below.refl _ _).alloc (Nat.le_refl _) _⟩
  have := World.ownsRow_lit (e := 5) (size := 1) w #[.int .u8 ((v : Int) % 256), .int .u8 ((v : Int) / 256 % 256)] 2 (Nat.le_refl _) (by unfold maxLen; omega) rfl
  unfold OwnB
  rw [leB_two v hv, leB_len]
  exact this

theorem leB_four (v : Nat) (hv : v < 4294967296) : (leB v 4).map bval = [.int .u8 ((v : Int) % 256), .int .u8 ((v : Int) / 256 % 256), .int .u8 ((v : Int) / 65536 % 256), .int .u8 ((v : Int) / 16777216)] := by
  simp only [leB, List.map_cons, List.map_nil, bval]
  congr 1 <;> (try (congr 1; rw [byt_mod]; omega))
  all_goals (repeat (first | rfl | (congr 1 <;> (try (congr 1; rw [byt_mod]; omega)))))
set_option maxHeartbeats 1000000 in
theorem little_four (v : Nat) (hv : v < 4294967296) (w : World) :
    Calls Try.prog 22 #[.int .i64 v, .int .i64 4] w fun e w' => e = .returned (.slice (some ⟨w.heap.size, 0, none⟩) 4 4) ∧ OwnB w' w.heap.size 5 (.slice (some ⟨w.heap.size, 0, none⟩) 4 4) (leB v 4) ∧ Below w.heap.size w w' := by
  have hmk : ∀ w, (Instr.makeSlice 22 (.int .i64 4) (.int .i64 4)).run Try.prog w = .ok (.slice (some ⟨w.heap.size, 0, none⟩) 4 4) (w.alloc (.cells #[.int .u8 0, .int .u8 0, .int .u8 0, .int .u8 0] 5)) := fun w => by
    have := run_make_row' (P := Try.prog) 22 5 (.int .u8 0) 1 Try.underlying22 info5 rfl .i64 .i64 4 (by omega) (by omega) w
    rw [show madeCells #[Value.int .u8 0] 4 = #[.int .u8 0, .int .u8 0, .int .u8 0, .int .u8 0] from by apply Array.toList_inj.1; rw [toList_madeCells_one]; rfl] at this
    exact this
  go_enter Try.func22, Try.ntmps22
  go_wp2_with fail
  refine wp_loop_rounds 5 ?_
  rw [rounds_succ]
  go_wp2
  rw [rounds_succ]
  go_wp2
  rw [rounds_succ]
  go_wp2
  rw [rounds_succ]
  go_wp2
  rw [rounds_succ]
  go_wp2
  go_ret
  refine ⟨rfl, ?_, (Below.refl _ _).alloc (Nat.le_refl _) _⟩
  have := World.ownsRow_lit (e := 5) (size := 1) w #[.int .u8 ((v : Int) % 256), .int .u8 ((v : Int) / 256 % 256), .int .u8 ((v : Int) / 65536 % 256), .int .u8 ((v : Int) / 16777216)] 4 (Nat.le_refl _) (by unfold maxLen; omega) rfl
  unfold OwnB
  rw [leB_four v hv, leB_len]
  exact this
end Go.Proofs.Ytgapahmjcladlaa
