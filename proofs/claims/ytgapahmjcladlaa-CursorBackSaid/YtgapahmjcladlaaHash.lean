/- The hash of four bytes, from the end: what the call computes. -/
import Derived.Test.YtgapahmjcladlaaRefF
namespace Go.Proofs.Ytgapahmjcladlaa
open Go.RowKit
set_option linter.unusedVariables false

/-- The hash of four bytes, from the end. -/
def hR (x y z u : UInt8) : Int := (((byt u * 16777619 + byt z) * 16777619 + byt y) % 4294967296 * 16777619 % 4294967296 + byt x) % 4294967296
theorem hR_eq (x y z u : UInt8) : hR x y z u = (byt u * 1055306571 + byt z * 637696617 + byt y * 16777619 + byt x) % 4294967296 := by
  unfold hR; omega
theorem hR_roll (s x y z u : UInt8) (h : Int) (hh : h = hR x y z u) : ((h * 16777619 + byt s) % 4294967296 - 1345077009 * byt u % 4294967296) % 4294967296 = hR s x y z := by
  rw [hh, hR_eq, hR_eq]; omega
theorem hR_lt (x y z u : UInt8) : 0 ≤ hR x y z u ∧ hR x y z u < 4294967296 := by unfold hR; omega

set_option maxRecDepth 100000 in
set_option maxHeartbeats 1000000 in
theorem hash_four (b o cap : Nat) (x y z u : UInt8) (hcap : 4 ≤ cap) (w : World) (d0 : w.cell? ⟨b, o, none⟩ = some (.int .u8 (byt x))) (d1 : w.cell? ⟨b, o + 1, none⟩ = some (.int .u8 (byt y))) (d2 : w.cell? ⟨b, o + 2, none⟩ = some (.int .u8 (byt z))) (d3 : w.cell? ⟨b, o + 3, none⟩ = some (.int .u8 (byt u))) :
    Calls Try.prog 39 #[.slice (some ⟨b, o, none⟩) 4 cap] w fun e w' => e = .returned (.tuple #[.int .u32 (hR x y z u), .int .u32 1345077009]) ∧ w' = w := by
  have b0 := byt_nonneg x; have b1 := byt_nonneg y; have b2 := byt_nonneg z; have b3 := byt_nonneg u
  have u0 := byt_lt x; have u1 := byt_lt y; have u2 := byt_lt z; have u3 := byt_lt u
  go_enter Try.func39, Try.ntmps39
  go_wp2_with fail
  refine wp_loop_rounds 5 ?_
  rw [rounds_succ]
  go_wp2
  rw [rounds_succ]
  go_wp2
  rw [rounds_succ]
  go_wp2
  rw [rounds_succ]
  go_wp2
  rw [rounds_succ]
  go_wp2
  refine wp_loop_rounds 4 ?_
  rw [rounds_succ]
  go_wp2
  rw [rounds_succ]
  go_wp2
  rw [rounds_succ]
  go_wp2
  rw [rounds_succ]
  go_wp2
  go_ret2
  exact ⟨rfl, rfl⟩
end Go.Proofs.Ytgapahmjcladlaa
