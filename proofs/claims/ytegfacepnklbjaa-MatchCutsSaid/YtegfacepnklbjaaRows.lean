/-
  No cell of these rows narrows 'for every input' (looked for: loops, veiled, ifaces, maps, wideKeys, modest, calm, conditions, laid).
  DERIVED. THE GIVEN ROWS OF THIS SEAT. 3 by the template 'for every input the law returns true; each argument reads behind the call as it read before'; 0 by the template 'total and deterministic' (their statements: YtegfacepnklbjaaTotals.lean).
  GIVEN WITH THE SEED: the statements are not yours to turn. If you find one false, say at which input.
  Laid BY PROGRAM, IN A SANDBOX (cutbox-rows.mjs): the forced cells as the released guide's own fill.sh prints them over the translation 322d54cf2769a980… (all of the seat's roots in one cut). By AI agents, Wed Nov 11 2026. No macro, syntax, notation, axiom, sorry.
-/
import Derived.Test.YtegfacepnklbjaaChecked
import GoSem.Claim
import GoSem.ClaimJoined
import GoSem.ClaimMapViews
import Derived.JoinedTies
import Derived.KernelRfl
namespace Go.Proofs.Ytegfacepnklbjaa
/- THE CELL 'sum', in the pinned program and in every row, IS THE sha256 OF THE DUMP (.gsa) THAT YtegfacepnklbjaaProg.lean LOADS. Nothing in Lean hashes anything: it is a label: what it is worth is what the hold of that sum in a sandbox is worth. -/
noncomputable def Try.pinned : Pinned := { name := "ytegfacepnklbjaa", sum := "322d54cf2769a98035a5ca7b3f7bebf00f0a2a1c434a6c761a0ade942cc19908", checked := Try.checked }
namespace Rows
def none {H : Type} : Left H := { results := [], args := [] }

/-- 'etuilaw07.MatchFinds': WHATEVER THE INPUT: true; the input reads as it did. -/
def matchFindsSpec : ChangeSpec := { name := "matchFinds", fn := fun _ => fun
  | [d1, d2] => { results := [.lit (.bool true)], args := [d1, d2] }
  | _ => none }
def matchFindsRow : OpenClaim := { program := "ytegfacepnklbjaa", sum := "322d54cf2769a98035a5ca7b3f7bebf00f0a2a1c434a6c761a0ade942cc19908", func := "etui/etuilaw07.MatchFinds", spec := "matchFinds", apart := false }
def MatchFindsSaid : Prop := matchFindsRow.holds Try.pinned (OpenSpec.ofChange matchFindsSpec)

/-- ITS FALSE NEIGHBOUR: 'it returns false'. Refute it at one input. -/
def matchFindsWrong : ChangeSpec := { name := "matchFinds", fn := fun _ => fun
  | [d1, d2] => { results := [.lit (.bool false)], args := [d1, d2] }
  | _ => none }
def MatchFindsWrongFalsely : Prop := matchFindsRow.holds Try.pinned (OpenSpec.ofChange matchFindsWrong)

/-- 'etuilaw07.MatchLevels': WHATEVER THE INPUT: true; the input reads as it did. -/
def matchLevelsSpec : ChangeSpec := { name := "matchLevels", fn := fun _ => fun
  | [d1, d2, d3] => { results := [.lit (.bool true)], args := [d1, d2, d3] }
  | _ => none }
def matchLevelsRow : OpenClaim := { program := "ytegfacepnklbjaa", sum := "322d54cf2769a98035a5ca7b3f7bebf00f0a2a1c434a6c761a0ade942cc19908", func := "etui/etuilaw07.MatchLevels", spec := "matchLevels", apart := false }
def MatchLevelsSaid : Prop := matchLevelsRow.holds Try.pinned (OpenSpec.ofChange matchLevelsSpec)

/-- ITS FALSE NEIGHBOUR: 'it returns false'. Refute it at one input. -/
def matchLevelsWrong : ChangeSpec := { name := "matchLevels", fn := fun _ => fun
  | [d1, d2, d3] => { results := [.lit (.bool false)], args := [d1, d2, d3] }
  | _ => none }
def MatchLevelsWrongFalsely : Prop := matchLevelsRow.holds Try.pinned (OpenSpec.ofChange matchLevelsWrong)

/-- 'etuilaw07.MatchCuts': WHATEVER THE INPUT: true; the input reads as it did. -/
def matchCutsSpec : ChangeSpec := { name := "matchCuts", fn := fun _ => fun
  | [d1, d2, d3] => { results := [.lit (.bool true)], args := [d1, d2, d3] }
  | _ => none }
def matchCutsRow : OpenClaim := { program := "ytegfacepnklbjaa", sum := "322d54cf2769a98035a5ca7b3f7bebf00f0a2a1c434a6c761a0ade942cc19908", func := "etui/etuilaw07.MatchCuts", spec := "matchCuts", apart := false }
def MatchCutsSaid : Prop := matchCutsRow.holds Try.pinned (OpenSpec.ofChange matchCutsSpec)

/-- ITS FALSE NEIGHBOUR: 'it returns false'. Refute it at one input. -/
def matchCutsWrong : ChangeSpec := { name := "matchCuts", fn := fun _ => fun
  | [d1, d2, d3] => { results := [.lit (.bool false)], args := [d1, d2, d3] }
  | _ => none }
def MatchCutsWrongFalsely : Prop := matchCutsRow.holds Try.pinned (OpenSpec.ofChange matchCutsWrong)

/- THE SECOND FORM. 'bulk': how many values and letters a reading holds, each counted each time it is reached (what is shared counts as often as it is met; a slice's spare places count too). A statement '..UptoSaid' is the law's where the arguments, and the package variables that the reading takes, are together of bulk at most 1048576: NARROWER than '..Said'. Prove '..Said' where nothing that the law and all that it calls make is longer than what came in: it says more and counts as full. Else prove '..UptoSaid'. A law counts once. -/
mutual
def uptoBulk {H : Type} : DataW H → Nat
  | .lit (.string bytes) => bytes.length + 1
  | .lit _ => 1
  | .nil => 1
  | .ptr d => uptoBulk d + 1
  | .slice elems spare => uptoBulkAll elems + uptoBulkAll spare + 1
  | .agg parts => uptoBulkAll parts + 1
  | .iface _ d => uptoBulk d + 1
  | .map entries => uptoBulkEntries entries + 1
  | .held _ => 1
def uptoBulkAll {H : Type} : List (DataW H) → Nat
  | [] => 0
  | d :: r => uptoBulk d + uptoBulkAll r
def uptoBulkEntries {H : Type} : List (Lit × DataW H) → Nat
  | [] => 0
  | x :: r => uptoBulkEntry x + uptoBulkEntries r
def uptoBulkEntry {H : Type} : Lit × DataW H → Nat
  | (.string bytes, d) => bytes.length + uptoBulk d + 1
  | (_, d) => uptoBulk d + 1
 end
def uptoSmall : (H : Type) → List (DataW H) → Bool := fun _ ds => decide (uptoBulkAll ds ≤ 1048576)
def OpenSpec.upto (s : _root_.Go.ChangeSpec) : _root_.Go.OpenSpec := { _root_.Go.OpenSpec.ofChange s with cond := some uptoSmall }

/-- 'etuilaw07.MatchFinds', WHERE WHAT IT READS IS OF BULK AT MOST 1048576: true; the input reads as it did. -/
def matchFindsUptoRow : OpenClaim := { program := "ytegfacepnklbjaa", sum := "322d54cf2769a98035a5ca7b3f7bebf00f0a2a1c434a6c761a0ade942cc19908", func := "etui/etuilaw07.MatchFinds", spec := "matchFinds", apart := false, narrowed := true }
def MatchFindsUptoSaid : Prop := matchFindsUptoRow.holds Try.pinned (OpenSpec.upto matchFindsSpec)

/-- 'etuilaw07.MatchLevels', WHERE WHAT IT READS IS OF BULK AT MOST 1048576: true; the input reads as it did. -/
def matchLevelsUptoRow : OpenClaim := { program := "ytegfacepnklbjaa", sum := "322d54cf2769a98035a5ca7b3f7bebf00f0a2a1c434a6c761a0ade942cc19908", func := "etui/etuilaw07.MatchLevels", spec := "matchLevels", apart := false, narrowed := true }
def MatchLevelsUptoSaid : Prop := matchLevelsUptoRow.holds Try.pinned (OpenSpec.upto matchLevelsSpec)

/-- 'etuilaw07.MatchCuts', WHERE WHAT IT READS IS OF BULK AT MOST 1048576: true; the input reads as it did. -/
def matchCutsUptoRow : OpenClaim := { program := "ytegfacepnklbjaa", sum := "322d54cf2769a98035a5ca7b3f7bebf00f0a2a1c434a6c761a0ade942cc19908", func := "etui/etuilaw07.MatchCuts", spec := "matchCuts", apart := false, narrowed := true }
def MatchCutsUptoSaid : Prop := matchCutsUptoRow.holds Try.pinned (OpenSpec.upto matchCutsSpec)

end Rows
end Go.Proofs.Ytegfacepnklbjaa
