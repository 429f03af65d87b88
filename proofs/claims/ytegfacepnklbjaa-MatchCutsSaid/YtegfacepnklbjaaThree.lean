/- The three bytes at a place, as a number: what the call answers. -/
import Derived.Test.YtegfacepnklbjaaFuns
import Derived.OpenShut
namespace Go.Proofs.Ytegfacepnklbjaa
open Go.RowKit
set_option linter.unusedVariables false

/-- Three bytes as a number. -/
def tri (c0 c1 c2 : UInt8) : Int := bits BinOp.or IntKind.u32 (bits BinOp.or IntKind.u32 (byt c0) (byt c1 * 256)) (byt c2 * 65536)
theorem tri_wf (c0 c1 c2 : UInt8) : (Lit.int .u32 (tri c0 c1 c2)).wf = true := wf_bits _ _ _ _
theorem three_at (F b o n cap p : Nat) (c0 c1 c2 : UInt8) (hp : p + 3 ≤ n) (hn : n ≤ 1099511627776) (hcap : n ≤ cap) (w : World)
    (hf : w.cell? ⟨F, 0, none⟩ = some (.slice (some ⟨b, o, none⟩) n cap)) (h0 : w.cell? ⟨b, o + p, none⟩ = some (.int .u8 (byt c0))) (h1 : w.cell? ⟨b, o + p + 1, none⟩ = some (.int .u8 (byt c1))) (h2 : w.cell? ⟨b, o + p + 2, none⟩ = some (.int .u8 (byt c2))) :
    Calls Try.prog 22 #[.pointer (some ⟨F, 0, none⟩), .int .i64 p] w fun e w' => e = .returned (.int .u32 (tri c0 c1 c2)) ∧ ∃ q, w' = w.drewN q := by
  have b0 := byt_nonneg c0; have b1 := byt_nonneg c1; have b2 := byt_nonneg c2
  have d0 := byt_lt c0; have d1 := byt_lt c1; have d2 := byt_lt c2
  go_enter Try.func22, Try.ntmps22
  go_wp2_with fail
  go_quiet (fail)
  go_wp2_with fail
  go_ret
  exact ⟨rfl, _, rfl⟩
end Go.Proofs.Ytegfacepnklbjaa
