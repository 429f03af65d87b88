/- A linear map of 32 columns, applied to a number: what the call computes, for every map and number. No condition but the array's shape. -/
import Derived.Test.YtmdmjnehhgdjaaaBase
import Derived.Test.YtmdmjnehhgdjaaaProg
import Derived.WalkKit
import Derived.WalkSpells
import Derived.WalkLawsBesides
import Derived.Deep.QuietTactic
import Derived.BigQuiet
import Derived.Lib.Hide
namespace Go.Proofs.Ytmdmjnehhgdjaaa
open Go.RowKit Math

attribute [local go_sem] bits_xor bits_and bits_and_one bits_and_poly bits_xor_poly bits_not bits_not' signed_u32 num_shr num_half num_div256 num_neg

set_option maxHeartbeats 400000 in
theorem of_any (cs : Array Value) (f : Nat → B32) (hcs : ∀ k, k < 32 → cs[k]? = some (.int .u32 (num (f k)))) (v : B32) (w : World) :
    Calls Try.prog 24 #[.agg cs, .int .u32 (num v)] w fun e w' => e = .returned (.int .u32 (num (cols f v 32))) ∧ Below w.heap.size w w' := by
  have H := Lib.hid hcs
  clear hcs
  go_enter Try.func24, Try.ntmps24
  go_wp2
  go_loopw [5, 6, 7] (fun o _ i wr => ∃ k : Nat, k ≤ 32 ∧ i = .int .i64 k ∧ o = .int .u32 (num (cols f v k)) ∧ wr.heap[w.heap.size]? = some (.cells cs 49) ∧ Below w.heap.size w wr) (fun _ _ i _ => 32 - (intOf i).toNat)
  case atStart => exact ⟨0, by omega, rfl, rfl, heap_alloc_new _ _, (Below.refl _ _).alloc (Nat.le_refl _) _⟩
  case round =>
    obtain ⟨k, hk, rfl, rfl, hb, hB⟩ := hrel
    by_cases hlt : k < 32
    · have hb' := Lib.hid hb
      have hc : wr.cell? ⟨w.heap.size, k, none⟩ = some (.int .u32 (num (f k))) := by
        have := H.out k hlt
        simp [World.cell?, hb, this]
      clear H hb
      go_wp2
      go_quiet (fail)
      go_wp2
      go_roundw
      case rel => exact ⟨k + 1, by omega, by go_num, rfl, hb'.out, below_drewN hB _⟩
      case measure => simp [intOf]; omega
    · go_wp2
      go_ret
      have : k = 32 := by omega
      subst this
      exact ⟨rfl, hB⟩
end Go.Proofs.Ytmdmjnehhgdjaaa
