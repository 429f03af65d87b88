/- A map done twice, and the map of one nought byte: what the calls compute. -/
import Derived.Test.YtmdmjnehhgdjaaaTable
import Derived.Test.YtmdmjnehhgdjaaaWalkOf
import Derived.Test.YtmdmjnehhgdjaaaWalkStep
namespace Go.Proofs.Ytmdmjnehhgdjaaa
open Go.RowKit Math

attribute [local go_sem] bits_xor bits_and bits_and_one bits_and_poly bits_xor_poly bits_not bits_not' signed_u32 num_shr num_half num_div256 num_neg bits_idx bits_idx' conv_byt

theorem s23 : (Try.prog.info? 23).map (·.size) = some 1 := by kernel_rfl

theorem of_arr (f : Nat → B32) (v : B32) (w : World) :
    Calls Try.prog 24 #[.agg (arr 32 fun k => u32 (f k)), .int .u32 (num v)] w fun e w' => e = .returned (.int .u32 (num (cols f v 32))) ∧ Below w.heap.size w w' :=
  of_any _ f (fun k hk => arr_get 32 _ k hk) v w

set_option maxHeartbeats 400000 in
set_option maxRecDepth 100000 in
theorem twice_any (f : Nat → B32) (w : World) :
    Calls Try.prog 25 #[.agg (arr 32 fun k => u32 (f k))] w fun e w' => e = .returned (.agg (arr 32 fun k => u32 (cols f (f k) 32))) ∧ Below w.heap.size w w' := by
  obtain ⟨F, hF⟩ : ∃ F : Nat → Value, F = fun k => u32 (f k) := ⟨_, rfl⟩
  rw [← hF]
  have HF := Lib.hid hF
  clear hF
  go_enter Try.func25, Try.ntmps25
  have tok1 : True := trivial
  go_wp2_with (first | (refine wpList_box_arr rfl 49 (.tmp 0) rfl 32 F rfl ?_; intro w1 hs1 hr1 hb1) | (clear tok1; refine wpList_alloc_arr rfl 49 32 (.int .u32 0) rfl z49 ?_; intro w2 hs2 hr2 hb2) | (refine wpList_alloc_arr rfl 49 32 (.int .u32 0) rfl z49 ?_; intro w3 hs3 hr3 hb3) | (refine wpList_load_arr rfl 49 (.tmp 1) rfl w.heap.size 32 F 49 _ rfl (rowIs_below (rowIs_below hr1 hb2 (by have := hs1.out; omega)) hb3 (by have := hs1.out; have := hs2.out; omega)) Try.underlying49 rfl s49 ?_))
  obtain ⟨A, hA⟩ : ∃ A, A = w.heap.size := ⟨_, rfl⟩
  obtain ⟨B, hB⟩ : ∃ B, B = w1.heap.size := ⟨_, rfl⟩
  obtain ⟨C, hC⟩ : ∃ C, C = w2.heap.size := ⟨_, rfl⟩
  have hAB : A < B := by have := hs1.out; omega
  have hBC : B < C := by have := hs2.out; omega
  rw [← hA] at hr1 hb1 ⊢
  rw [← hB] at hr2 hb2 ⊢
  rw [← hC] at hr3 hb3 ⊢
  have hr1' := rowIs_below (rowIs_below hr1 hb2 hAB) hb3 (by omega)
  have hr2' := rowIs_below hr2 hb3 hBC
  have hbb := (hb1.trans (hb2.mono (Nat.le_of_lt hAB))).trans (hb3.mono (by omega))
  have HA := Lib.hid hA
  clear hA hB hC hs1 hs2 hs3 hr1 hr2 hb1 hb2 hb3
  go_loopw [7] (fun i wr => ∃ k : Nat, k ≤ 32 ∧ i = .int .i64 k ∧ wr.rowIs C 49 32 (fun j => if j < k then u32 (cols f (f j) 32) else .int .u32 0) ∧ wr.rowIs B 49 32 (fun _ => .int .u32 0) ∧ wr.rowIs A 49 32 F ∧ Below A w wr) (fun i _ => 32 - (intOf i).toNat)
  case atStart => exact ⟨0, by omega, rfl, hr3.congr (fun i _ => by simp), hr2', hr1', hbb⟩
  case round =>
    clear hr1' hr2' hbb hr3
    obtain ⟨k, hk, rfl, hr3, hr2, hr1, hb⟩ := hrel
    by_cases hlt : k < 32
    · have hix : ∀ w : World, (Instr.index 49 (.agg (arr 32 F)) (.int .i64 k)).run Try.prog w = .ok (.int .u32 (num (f k))) w := fun w => by
        rw [run_index_arr 49 23 32 k F Try.underlying49 s23 _ Try.underlying23 rfl hlt, HF.out]; rfl
      go_wp2_with (first | (refine wpList_load_arr rfl 49 (.tmp 1) rfl A 32 F 49 _ rfl hr1 Try.underlying49 rfl s49 ?_) | (go_at_call 24; rw [HF.out]; refine (of_arr f (f k) _).mono ?_; rw [← HF.out]; rintro e w4 ⟨rfl, hb4⟩; have hr3' := rowIs_below hr3 hb4 hr3.lt; have hc := hr3'.cell hlt; have hf := hr3'.frozen k))
      go_roundw
      case rel =>
        refine ⟨k + 1, by omega, by go_num, (hr3'.set k _).congr fun i hi => ?_, (rowIs_below hr2 hb4 hr2.lt).setOther (Nat.ne_of_lt hBC) _, (rowIs_below hr1 hb4 hr1.lt).setOther (by show A ≠ C; omega) _, (hb.trans (hb4.mono (by rw [HA.out]; exact hb.size))).setCell (by show A ≤ C; omega) _⟩
        by_cases h1 : i = k
        · subst h1; simp [u32]
        · by_cases h2 : i < k
          · simp [h1, h2, show i < k + 1 by omega]
          · simp [h1, h2, show ¬ i < k + 1 by omega]
      case measure => simp [intOf]; omega
    · obtain rfl : k = 32 := by omega
      have hr3' := hr3.congr (g := fun j => u32 (cols f (f j) 32)) (fun i hi => by simp [hi])
      clear hr3
      go_wp2_with (first | (refine wpList_load_arr rfl 49 (.tmp 3) rfl C 32 _ 49 _ rfl hr3' Try.underlying49 rfl s49 ?_) | (refine wpList_store_arr rfl 49 (.tmp 2) (.tmp 17) rfl B 32 _ _ 49 rfl rfl hr2 s49 (fun _ _ => rfl) ?_; intro w5 hs5 hr5 hb5))
      refine bodyPost_ret (results_arr rfl _ B 32 _ 49 _ rfl hr5 Try.underlying49 rfl s49) rfl ⟨rfl, ?_⟩
      rw [← HA.out]
      exact hb.grown hb5 (by rw [HA.out]; exact hb.size) (fun k e => by injection e with e; omega)

theorem shl_bit (k : Nat) (h : k < 32) : IntKind.u32.wrap (2 ^ k) = num (BitVec.ofNat 32 (2 ^ k)) := by
  rw [IntKind.wrap_u32']
  unfold num
  rw [BitVec.toNat_ofNat]
  have h2 : 2 ^ k < 2 ^ 32 := Nat.pow_lt_pow_right (by decide) h
  have e : ((2 : Int) ^ k) = ((2 ^ k : Nat) : Int) := by simp
  rw [e, Nat.mod_eq_of_lt h2]
  generalize 2 ^ k = q at h2
  omega

set_option maxHeartbeats 400000 in
set_option maxRecDepth 100000 in
theorem nought_any (w : World) : Calls Try.prog 23 #[] w fun e w' => e = .returned (.agg (arr 32 fun k => u32 (it 8 (BitVec.ofNat 32 (2 ^ k))))) ∧ Below w.heap.size w w' := by
  go_enter Try.func23, Try.ntmps23
  have tok1 : True := trivial
  go_wp2_with (first | (clear tok1; refine wpList_alloc_arr rfl 49 32 (.int .u32 0) rfl z49 ?_; intro w1 hs1 hr1 hb1) | (refine wpList_alloc_arr rfl 49 32 (.int .u32 0) rfl z49 ?_; intro w2 hs2 hr2 hb2) | (go_at_call 19; refine (table_any _).mono ?_; rintro e w3 ⟨rfl, hb3⟩) | (refine wpList_alloc_arr rfl 41 256 (.int .u32 0) rfl z41 ?_; intro w4 hs4 hr4 hb4) | (refine wpList_store_arr rfl 41 (.tmp 2) (.tmp 4) rfl w3.heap.size 256 _ _ 41 rfl rfl hr4 s41 (fun _ _ => rfl) ?_; intro w5 hs5 hr5 hb5))
  obtain ⟨A, hA⟩ : ∃ A, A = w.heap.size := ⟨_, rfl⟩
  obtain ⟨B, hB⟩ : ∃ B, B = w1.heap.size := ⟨_, rfl⟩
  obtain ⟨D, hD⟩ : ∃ D, D = w3.heap.size := ⟨_, rfl⟩
  have hAB : A < B := by have := hs1.out; omega
  have hBD : B < D := by have := hs2.out; have := hb3.size; omega
  have h2s : w2.heap.size = B + 1 := by rw [hB]; exact hs2.out
  rw [← hA] at hr1 hb1 ⊢
  rw [← hB] at hr2 hb2 ⊢
  rw [← hD] at hr4 hb4 hr5 hb5 ⊢
  have hr1' := rowIs_grown (rowIs_below (rowIs_below (rowIs_below hr1 hb2 hAB) hb3 (by omega)) hb4 (by omega)) hb5 (by omega)
  have hr2' := rowIs_grown (rowIs_below (rowIs_below hr2 hb3 (by omega)) hb4 (by omega)) hb5 (by omega)
  have hbb := (((hb1.trans (hb2.mono (Nat.le_of_lt hAB))).trans (hb3.mono (by omega))).trans (hb4.mono (by omega))).grown hb5 (by have := hb4.size; omega) (fun k e => by injection e with e; omega)
  have HA := Lib.hid hA
  clear hA hB hD hs1 hs2 hs4 hs5 hr1 hr2 hb1 hb2 hb3 h2s hr4 hb4 hb5
  go_loopw [5] (fun i wr => ∃ k : Nat, k ≤ 32 ∧ i = .int .i64 k ∧ wr.rowIs D 41 256 (fun i => u32 (tab i)) ∧ wr.rowIs B 49 32 (fun j => if j < k then u32 (it 8 (BitVec.ofNat 32 (2 ^ j))) else .int .u32 0) ∧ wr.rowIs A 49 32 (fun _ => .int .u32 0) ∧ Below A w wr) (fun i _ => 32 - (intOf i).toNat)
  case atStart => exact ⟨0, by omega, rfl, hr5, hr2'.congr (fun i _ => by simp), hr1', hbb⟩
  case round =>
    clear hr1' hr2' hbb hr5
    obtain ⟨k, hk, rfl, hr3, hr2, hr1, hb⟩ := hrel
    by_cases hlt : k < 32
    · have hsh := shl_bit k hlt
      go_wp2_with fail
      refine (step_some D _ 0 1 [0] (by decide) (BitVec.ofNat 32 (2 ^ k)) _ (fun i hi => (hr3.alloc _).cell hi) (fun i c hc => ?_)).mono ?_
      · match i, hc with
        | 0, hc =>
          have : c = 0 := by simpa using hc.symm
          subst this
          exact World.cell?_alloc_new _ _ _ _
      rintro e w6 ⟨rfl, rfl⟩
      have hr2b := hr2.alloc (.cells #[.int .u8 0] 5)
      have hc := hr2b.cell hlt
      have hf := hr2b.frozen k
      have hu : upd (BitVec.ofNat 32 (2 ^ k)) [0] = it 8 (BitVec.ofNat 32 (2 ^ k)) := feed_zero _
      rw [hu]
      clear hu
      go_wp2
      go_roundw
      case rel =>
        refine ⟨k + 1, by omega, by go_num, (hr3.alloc _).setOther (by show D ≠ B; omega) _, (hr2b.set k _).congr fun i hi => ?_, (hr1.alloc _).setOther (by show A ≠ B; omega) _, (hb.alloc (by rw [HA.out]; exact hb.size) _).setCell (by show A ≤ B; omega) _⟩
        by_cases h1 : i = k
        · subst h1; simp [u32]
        · by_cases h2 : i < k
          · simp [h1, h2, show i < k + 1 by omega]
          · simp [h1, h2, show ¬ i < k + 1 by omega]
      case measure => simp [intOf]; omega
    · obtain rfl : k = 32 := by omega
      have hr3' := hr2.congr (g := fun j => u32 (it 8 (BitVec.ofNat 32 (2 ^ j)))) (fun i hi => by simp [hi])
      clear hr2
      go_wp2_with (first | (refine wpList_load_arr rfl 49 (.tmp 1) rfl B 32 _ 49 _ rfl hr3' Try.underlying49 rfl s49 ?_) | (refine wpList_store_arr rfl 49 (.tmp 0) (.tmp 15) rfl A 32 _ _ 49 rfl rfl hr1 s49 (fun _ _ => rfl) ?_; intro w5 hs5 hr5 hb5))
      refine bodyPost_ret (results_arr rfl _ A 32 _ 49 _ rfl hr5 Try.underlying49 rfl s49) rfl ⟨rfl, ?_⟩
      rw [← HA.out]
      exact hb.grown hb5 (by rw [HA.out]; exact hb.size) (fun k e => by injection e with e; omega)
end Go.Proofs.Ytmdmjnehhgdjaaa
