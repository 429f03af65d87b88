/-
  DERIVED. GIVEN WITH THE SEED: THE CARDS: each row of YthedhominhgeaaaDoorRows.lean that lists a variable, with what it lists TIED to the program's text (the seventh form; the later family's looks); each row that meets fmt, with fmt's text TOLD by the authors' own Lean function (tested against real Go, not proved from fmt's source: count such statements apart). THE CARD IS WHAT COUNTS. Prove the row's statement (the work); the ties are given (YthedhominhgeaaaDoorTie.lean); close each card by the builder's one call (the guide's Derived/Test/ToyasCard.lean, 'card_holds'). Laid BY PROGRAM, IN A SANDBOX (cutbox-door.mjs). By AI agents, Wed Nov 11 2026. No macro, syntax, notation, axiom, sorry.
-/
import Derived.Test.YthedhominhgeaaaDoorRows
import GoSem.ClaimSeven
namespace Go.Proofs.YthedhominhgeaaaDoor
namespace Rows

/-- THE TIED CARD OF 'etuilaw15.PnameBack'. -/
def pnameBackCard : Claim7 := { stood := { row := pnameBackRow, standIns := [], harness := (true, "8b2a20e047a4884b931a5a13719b2149640403df2de637a240fc921abe3b576a"), looks := false }, kinds := [], alts := [], laidByText := true, laidKinds := [.data, .pinned], laidTests := true, laidLooks := .later }
def PnameBackCardSaid : Prop := Claim7.holds Tryd.pinned (.plain (OpenSpec.ofChange pnameBackSpec)) pnameBackCard

/-- THE TIED CARD OF 'etuilaw15.PnameAnswers'. -/
def pnameAnswersCard : Claim7 := { stood := { row := pnameAnswersRow, standIns := [], harness := (true, "8b2a20e047a4884b931a5a13719b2149640403df2de637a240fc921abe3b576a"), looks := false }, kinds := [], alts := [], laidByText := true, laidKinds := [.data, .pinned], laidTests := true, laidLooks := .later }
def PnameAnswersCardSaid : Prop := Claim7.holds Tryd.pinned (.plain (OpenSpec.ofChange pnameAnswersSpec)) pnameAnswersCard

/-- THE TIED CARD OF 'etuilaw15.PnameClash'. -/
def pnameClashCard : Claim7 := { stood := { row := pnameClashRow, standIns := [], harness := (true, "8b2a20e047a4884b931a5a13719b2149640403df2de637a240fc921abe3b576a"), looks := false }, kinds := [], alts := [], laidByText := true, laidKinds := [.data, .pinned], laidTests := true, laidLooks := .later }
def PnameClashCardSaid : Prop := Claim7.holds Tryd.pinned (.plain (OpenSpec.ofChange pnameClashSpec)) pnameClashCard

/-- THE TIED CARD OF 'etuilaw15.PnameLikes'. -/
def pnameLikesCard : Claim7 := { stood := { row := pnameLikesRow, standIns := [], harness := (true, "8b2a20e047a4884b931a5a13719b2149640403df2de637a240fc921abe3b576a"), looks := false }, kinds := [], alts := [], laidByText := true, laidKinds := [.data, .pinned], laidTests := true, laidLooks := .later }
def PnameLikesCardSaid : Prop := Claim7.holds Tryd.pinned (.plain (OpenSpec.ofChange pnameLikesSpec)) pnameLikesCard

/-- THE SECOND FORM's CARD OF 'etuilaw15.PnameBack'. -/
def pnameBackUptoCard : Claim7 := { stood := { row := pnameBackUptoRow, standIns := [], harness := (true, "8b2a20e047a4884b931a5a13719b2149640403df2de637a240fc921abe3b576a"), looks := false }, kinds := [], alts := [], laidByText := true, laidKinds := [.data, .pinned], laidTests := true, laidLooks := .later }
def PnameBackUptoCardSaid : Prop := Claim7.holds Tryd.pinned (.plain (OpenSpec.upto pnameBackSpec)) pnameBackUptoCard

/-- THE SECOND FORM's CARD OF 'etuilaw15.PnameAnswers'. -/
def pnameAnswersUptoCard : Claim7 := { stood := { row := pnameAnswersUptoRow, standIns := [], harness := (true, "8b2a20e047a4884b931a5a13719b2149640403df2de637a240fc921abe3b576a"), looks := false }, kinds := [], alts := [], laidByText := true, laidKinds := [.data, .pinned], laidTests := true, laidLooks := .later }
def PnameAnswersUptoCardSaid : Prop := Claim7.holds Tryd.pinned (.plain (OpenSpec.upto pnameAnswersSpec)) pnameAnswersUptoCard

/-- THE SECOND FORM's CARD OF 'etuilaw15.PnameClash'. -/
def pnameClashUptoCard : Claim7 := { stood := { row := pnameClashUptoRow, standIns := [], harness := (true, "8b2a20e047a4884b931a5a13719b2149640403df2de637a240fc921abe3b576a"), looks := false }, kinds := [], alts := [], laidByText := true, laidKinds := [.data, .pinned], laidTests := true, laidLooks := .later }
def PnameClashUptoCardSaid : Prop := Claim7.holds Tryd.pinned (.plain (OpenSpec.upto pnameClashSpec)) pnameClashUptoCard

/-- THE SECOND FORM's CARD OF 'etuilaw15.PnameLikes'. -/
def pnameLikesUptoCard : Claim7 := { stood := { row := pnameLikesUptoRow, standIns := [], harness := (true, "8b2a20e047a4884b931a5a13719b2149640403df2de637a240fc921abe3b576a"), looks := false }, kinds := [], alts := [], laidByText := true, laidKinds := [.data, .pinned], laidTests := true, laidLooks := .later }
def PnameLikesUptoCardSaid : Prop := Claim7.holds Tryd.pinned (.plain (OpenSpec.upto pnameLikesSpec)) pnameLikesUptoCard
end Rows
end Go.Proofs.YthedhominhgeaaaDoor
