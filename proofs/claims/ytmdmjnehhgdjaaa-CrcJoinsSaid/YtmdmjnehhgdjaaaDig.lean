/- The digest's four methods: what each call computes and what it writes. -/
import Derived.Test.YtmdmjnehhgdjaaaFuns
import Derived.StillTailTactics
namespace Go.Proofs.Ytmdmjnehhgdjaaa
open Go.RowKit Math

attribute [local go_sem] bits_xor bits_and bits_and_one bits_and_poly bits_xor_poly bits_not bits_not' signed_u32 num_shr num_half num_div256 num_neg bits_idx bits_idx' conv_byt

/-- A digest's cells: the table, the inner number, how many bytes. -/
def dig (x : B32) (n : Int) : Nat → Value := fun i => if i < 256 then u32 (tab i) else if i = 256 then u32 x else .int .i64 n

theorem built47 (f : Nat → Value) (z : Int) : Try.prog.built 47 [(0, .agg (arr 256 f)), (1, .int .u32 z)] = some (arr 258 fun i => if i < 256 then f i else if i = 256 then .int .u32 z else .int .i64 0) := by kernel_rfl

theorem dig_tab (x : B32) (n : Int) (i : Nat) (h : i < 256) : dig x n i = .int .u32 (num (tab i)) := by unfold dig; rw [if_pos h]; rfl
theorem dig_in (x : B32) (n : Int) : dig x n 256 = .int .u32 (num x) := rfl
theorem dig_n (x : B32) (n : Int) : dig x n 257 = .int .i64 n := rfl

theorem step_still (g cap : Nat) (a : Option Addr) (bs : List UInt8) (hlen : bs.length ≤ 9223372036854775807) (x : B32) (w : World)
    (ht : ∀ i, i < 256 → w.cell? ⟨g, i, none⟩ = some (.int .u32 (num (tab i)))) (hb : Bytes w a bs) :
    Calls Try.prog 20 #[.pointer (some ⟨g, 0, none⟩), .int .u32 (num x), .slice a bs.length cap] w fun e w' => e = .returned (.int .u32 (num (upd x bs))) ∧ w' = w :=
  (step_any g cap a bs hlen x w ht hb).mono fun _ _ ⟨h1, h2⟩ => ⟨h1, h2.symm⟩
theorem Bytes.drew {w : World} {a : Option Addr} {bs : List UInt8} (h : Bytes w a bs) : Bytes w.drew a bs := h
theorem grown_drew (w : World) (g : Nat) : w.grownBy w.drew (some g) := ⟨rfl, rfl, rfl, Nat.le_refl _, fun _ _ _ => rfl⟩
theorem grown_set {w w1 : World} {g : Nat} (h : w.grownBy w1 (some g)) (i : Nat) (v : Value) : w.grownBy (w1.setCell ⟨g, i, none⟩ v) (some g) :=
  ⟨h.os, h.tape, h.output, by simpa [World.setCell] using h.size, fun k hk hne => (Below.heap_setCell w1 ⟨g, i, none⟩ v k (fun e => hne (by rw [e]))).trans (h.block k hk hne)⟩

theorem digSum_any (g : Nat) (x : B32) (n : Int) (w : World) (hr : w.rowIs g 47 258 (dig x n)) :
    Calls Try.prog 18 #[.pointer (some ⟨g, 0, none⟩)] w fun e w' => e = .returned (.int .u32 (num (Nt x))) ∧ w = w' := by
  have hc := hr.cell (i := 256) (by decide)
  rw [dig_in] at hc
  clear hr
  go_enter Try.func18, Try.ntmps18
  go_wp2
  go_ret
  exact ⟨rfl, rfl⟩

theorem digLen_any (g : Nat) (x : B32) (n : Int) (w : World) (hr : w.rowIs g 47 258 (dig x n)) :
    Calls Try.prog 17 #[.pointer (some ⟨g, 0, none⟩)] w fun e w' => e = .returned (.int .i64 n) ∧ w = w' := by
  have hc := hr.cell (i := 257) (by decide)
  rw [dig_n] at hc
  clear hr
  go_enter Try.func17, Try.ntmps17
  go_wp2
  go_ret
  exact ⟨rfl, rfl⟩

set_option maxHeartbeats 400000 in
theorem write_any (g cap : Nat) (a : Option Addr) (bs : List UInt8) (x : B32) (n : Nat) (w : World) (hr : w.rowIs g 47 258 (dig x n)) (hb : Bytes w a bs) (hn : n + bs.length ≤ 9223372036854775807) :
    Calls Try.prog 16 #[.pointer (some ⟨g, 0, none⟩), .slice a bs.length cap] w fun e w' => e = .returned (.tuple #[]) ∧ w'.rowIs g 47 258 (dig (upd x bs) ((n : Int) + bs.length)) ∧ w.grownBy w' (some g) := by
  have hc := hr.cell (i := 256) (by decide)
  have hd := hr.cell (i := 257) (by decide)
  have hf := hr.frozen 256
  have hf2 := hr.frozen 257
  rw [dig_in] at hc
  rw [dig_n] at hd
  have HR := Lib.hid hr
  have HB := Lib.hid hb
  clear hr hb
  go_enter Try.func16, Try.ntmps16
  go_wp2
  refine wp_region_still_tail 12 (by kernel_rfl) (by kernel_rfl) ?_
  simp only [List.take_succ_cons, List.take_zero, List.drop_succ_cons, List.drop_zero]
  repeat still_step
  still_call (step_still g cap a bs (by omega) x w.drew (fun i hi => by rw [← dig_tab x n i hi]; exact HR.out.cell (by omega)) HB.out.drew)
  repeat still_step
  refine wpStill_nil ?_
  change wpList _ _ _ _ _ w.drew
  go_wp2
  go_end0
  refine ⟨rfl, ?_, ?_⟩
  · refine ((World.rowIs.set HR.out.drew 256 _).set 257 _).congr fun i hi => ?_
    unfold dig
    by_cases h1 : i = 257
    · subst h1; rfl
    · by_cases h2 : i = 256
      · subst h2; rfl
      · rw [if_neg h1, if_neg h2]
        by_cases h3 : i < 256
        · rw [if_pos h3, if_pos h3]
        · omega
  · exact grown_set (grown_set (grown_drew w g) 256 _) 257 _

theorem built47' : Try.prog.built 47 [(0, .agg (arr 256 fun i => u32 (tab i))), (1, .int .u32 4294967295)] = some (arr 258 (dig (BitVec.allOnes 32) 0)) := built47 _ _

set_option maxHeartbeats 400000 in
set_option maxRecDepth 100000 in
theorem new_any (w : World) : Calls Try.prog 14 #[] w fun e w' => ∃ g, e = .returned (.pointer (some ⟨g, 0, none⟩)) ∧ w.heap.size ≤ g ∧ w'.rowIs g 47 258 (dig (BitVec.allOnes 32) 0) ∧ Below w.heap.size w w' := by
  go_enter Try.func14, Try.ntmps14
  go_wp2_with (first
    | (go_at_call 19; refine (table_any _).mono ?_; rintro e w1 ⟨rfl, hb1⟩)
    | (refine wpList_build_as rfl 47 #[(0, .tmp 1), (1, .const (.int .u32 4294967295))] rfl [(0, .agg (arr 256 fun i => u32 (tab i))), (1, .int .u32 4294967295)] (by simp only [List.map_toArray, List.map_cons, List.map_nil]; rfl) _ built47' ?_)
    | (refine wpList_box_arr rfl 47 (.tmp 2) rfl 258 (dig (BitVec.allOnes 32) 0) rfl ?_; intro w2 hs2 hr2 hb2))
  go_ret
  exact ⟨_, rfl, hb1.size, hr2, hb1.trans (hb2.mono hb1.size)⟩
end Go.Proofs.Ytmdmjnehhgdjaaa
