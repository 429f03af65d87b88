/- The table that the call makes: what each byte makes of a sum's lowest eight bits. -/
import Derived.Test.YtmdmjnehhgdjaaaBase
import Derived.Test.YtmdmjnehhgdjaaaArr
import Derived.Test.YtmdmjnehhgdjaaaProg
import Derived.WalkSpells
import Derived.WalkLawsBesides
import Derived.Deep.QuietTactic
import Derived.BigQuiet
import Derived.Lib.Hide
namespace Go.Proofs.Ytmdmjnehhgdjaaa
open Go.RowKit Math

attribute [local go_sem] bits_xor bits_and bits_and_one bits_and_poly bits_xor_poly bits_not bits_not' signed_u32 num_shr num_half num_div256 num_neg bits_idx bits_idx' conv_byt

theorem z41 : (Try.prog.info? 41).map (·.zero) = some (some (.agg (arr 256 fun _ => .int .u32 0))) := by kernel_rfl
theorem s41 : (Try.prog.info? 41).map (·.size) = some 256 := by kernel_rfl
theorem z49 : (Try.prog.info? 49).map (·.zero) = some (some (.agg (arr 32 fun _ => .int .u32 0))) := by kernel_rfl
theorem s49 : (Try.prog.info? 49).map (·.size) = some 32 := by kernel_rfl

/-- A number of 32 bits as a slot holds it. -/
def u32 (x : B32) : Value := .int .u32 (num x)
theorem u32_one (x : B32) : (u32 x).oneCell' = true := rfl

theorem conv_nat (k : Nat) (h : k < 256) : IntKind.u32.wrap (k : Int) = num (BitVec.ofNat 32 k) := by
  rw [IntKind.wrap_u32']
  unfold num
  rw [BitVec.toNat_ofNat, Nat.mod_eq_of_lt (by omega)]
  omega

set_option maxHeartbeats 400000 in
set_option maxRecDepth 100000 in
theorem table_any (w : World) : Calls Try.prog 19 #[] w fun e w' => e = .returned (.agg (arr 256 fun i => u32 (tab i))) ∧ Below w.heap.size w w' := by
  go_enter Try.func19, Try.ntmps19
  have tok1 : True := trivial
  go_wp2_with (first | (clear tok1; refine wpList_alloc_arr rfl 41 256 (.int .u32 0) rfl z41 ?_; intro w1 hs1 hr1 hb1) | (refine wpList_alloc_arr rfl 41 256 (.int .u32 0) rfl z41 ?_; intro w2 hs2 hr2 hb2))
  obtain ⟨B, hB⟩ : ∃ B, B = w.heap.size := ⟨_, rfl⟩
  obtain ⟨C, hC⟩ : ∃ C, C = w1.heap.size := ⟨_, rfl⟩
  have hBC : B < C := by have := hs1.out; omega
  rw [← hB] at hr1 hb1 ⊢
  rw [← hC] at hr2 hb2 ⊢
  have hr1' := rowIs_below hr1 hb2 hBC
  have hbb := hb1.trans (hb2.mono (Nat.le_of_lt hBC))
  have HB := Lib.hid hB
  clear hB hr1 hb1 hb2 hs1 hs2 hC
  go_wp2
  go_loopw [4] (fun i wr => ∃ k : Nat, k ≤ 256 ∧ i = .int .i64 k ∧ wr.rowIs C 41 256 (fun j => if j < k then u32 (tab j) else .int .u32 0) ∧ wr.rowIs B 41 256 (fun _ => .int .u32 0) ∧ Below B w wr) (fun i _ => 256 - (intOf i).toNat)
  case atStart => exact ⟨0, by omega, rfl, hr2.congr (fun i _ => by simp), hr1', hbb⟩
  case round =>
    clear hr1' hbb hr2
    obtain ⟨k, hk, rfl, hr2, hr1, hb⟩ := hrel
    by_cases hlt : k < 256
    · have hcv := conv_nat k hlt
      go_wp2
      go_loop [3, 9] (fun x i => ∃ j : Nat, j ≤ 8 ∧ i = .int .i64 j ∧ x = .int .u32 (num (it j (BitVec.ofNat 32 k)))) (fun _ i => 8 - (intOf i).toNat)
      case atStart => exact ⟨0, by omega, rfl, rfl⟩
      case round =>
        obtain ⟨j, hj, rfl, rfl⟩ := hrel
        by_cases hj8 : j < 8
        · go_wp2
          go_round
          case rel => exact ⟨j + 1, by omega, by go_num, by rw [it_succ', ← half_eq]⟩
          case measure => simp [intOf]; omega
        · obtain rfl : j = 8 := by omega
          have hcell := hr2.cell hlt
          have hfr := hr2.frozen k
          go_wp2
          go_roundw
          case rel =>
            refine ⟨k + 1, by omega, by go_num, (hr2.set k _).congr fun i hi => ?_, hr1.setOther (Nat.ne_of_lt hBC) _, hb.setCell (Nat.le_of_lt hBC) _⟩
            by_cases h1 : i = k
            · subst h1; simp [u32, tab]
            · by_cases h2 : i < k
              · simp [h1, h2, show i < k + 1 by omega]
              · simp [h1, h2, show ¬ i < k + 1 by omega]
          case measure => simp [intOf]; omega
    · obtain rfl : k = 256 := by omega
      have hr3 := hr2.congr (g := fun j => u32 (tab j)) (fun i hi => by simp [hi])
      clear hr2
      have hr2 := hr3
      clear hr3
      go_wp2_with (first | (refine wpList_load_arr rfl 41 (.tmp 1) rfl C 256 _ 41 _ rfl hr2 Try.underlying41 rfl s41 ?_) | (refine wpList_store_arr rfl 41 (.tmp 0) (.tmp 23) rfl B 256 _ _ 41 rfl rfl hr1 s41 (fun _ _ => rfl) ?_; intro w3 hs3 hr3 hb3))
      refine bodyPost_ret (results_arr rfl _ B 256 _ 41 _ rfl hr3 Try.underlying41 rfl s41) rfl ⟨rfl, ?_⟩
      rw [← HB.out]
      exact hb.grown hb3 (by rw [HB.out]; exact hb.size) (fun k e => by injection e with e; omega)
end Go.Proofs.Ytmdmjnehhgdjaaa
