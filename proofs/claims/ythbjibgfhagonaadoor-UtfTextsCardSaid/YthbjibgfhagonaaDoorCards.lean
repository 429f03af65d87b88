/-
  DERIVED. GIVEN WITH THE SEED: THE CARDS: each row of YthbjibgfhagonaaDoorRows.lean that lists a variable, with what it lists TIED to the program's text (the seventh form; the later family's looks); each row that meets fmt, with fmt's text TOLD by the authors' own Lean function (tested against real Go, not proved from fmt's source: count such statements apart). THE CARD IS WHAT COUNTS. Prove the row's statement (the work); the ties are given (YthbjibgfhagonaaDoorTie.lean); close each card by the builder's one call (the guide's Derived/Test/ToyasCard.lean, 'card_holds'). Laid BY PROGRAM, IN A SANDBOX (cutbox-door.mjs). By AI agents, Wed Nov 11 2026. No macro, syntax, notation, axiom, sorry.
-/
import Derived.Test.YthbjibgfhagonaaDoorRows
import GoSem.ClaimSeven
namespace Go.Proofs.YthbjibgfhagonaaDoor
namespace Rows

/-- THE TIED CARD OF 'etuilaw11.UtfCuts'. -/
def utfCutsCard : Claim7 := { stood := { row := utfCutsRow, standIns := [], harness := (true, "c6c4fd11ae75565c28af14513ac6305bc5c1bb0f89a7db2d55f800f674f966da"), looks := false }, kinds := [], alts := [], laidByText := true, laidKinds := [.data, .pinned], laidTests := true, laidLooks := .later }
def UtfCutsCardSaid : Prop := Claim7.holds Tryd.pinned (.plain (OpenSpec.ofChange utfCutsSpec)) utfCutsCard

/-- THE TIED CARD OF 'etuilaw11.UtfSigns'. -/
def utfSignsCard : Claim7 := { stood := { row := utfSignsRow, standIns := [], harness := (true, "c6c4fd11ae75565c28af14513ac6305bc5c1bb0f89a7db2d55f800f674f966da"), looks := false }, kinds := [], alts := [], laidByText := true, laidKinds := [.data, .pinned], laidTests := true, laidLooks := .later }
def UtfSignsCardSaid : Prop := Claim7.holds Tryd.pinned (.plain (OpenSpec.ofChange utfSignsSpec)) utfSignsCard

/-- THE TIED CARD OF 'etuilaw11.UtfTexts'. -/
def utfTextsCard : Claim7 := { stood := { row := utfTextsRow, standIns := [], harness := (true, "c6c4fd11ae75565c28af14513ac6305bc5c1bb0f89a7db2d55f800f674f966da"), looks := false }, kinds := [], alts := [], laidByText := true, laidKinds := [.data, .pinned], laidTests := true, laidLooks := .later }
def UtfTextsCardSaid : Prop := Claim7.holds Tryd.pinned (.plain (OpenSpec.ofChange utfTextsSpec)) utfTextsCard

/-- THE TIED CARD OF 'etuilaw11.UtfBack'. -/
def utfBackCard : Claim7 := { stood := { row := utfBackRow, standIns := [], harness := (true, "c6c4fd11ae75565c28af14513ac6305bc5c1bb0f89a7db2d55f800f674f966da"), looks := false }, kinds := [], alts := [], laidByText := true, laidKinds := [.data, .pinned], laidTests := true, laidLooks := .later }
def UtfBackCardSaid : Prop := Claim7.holds Tryd.pinned (.plain (OpenSpec.ofChange utfBackSpec)) utfBackCard

/-- THE TIED CARD OF 'etuilaw11.UtfLines'. -/
def utfLinesCard : Claim7 := { stood := { row := utfLinesRow, standIns := [], harness := (true, "c6c4fd11ae75565c28af14513ac6305bc5c1bb0f89a7db2d55f800f674f966da"), looks := false }, kinds := [], alts := [], laidByText := true, laidKinds := [.data, .pinned], laidTests := true, laidLooks := .later }
def UtfLinesCardSaid : Prop := Claim7.holds Tryd.pinned (.plain (OpenSpec.ofChange utfLinesSpec)) utfLinesCard

/-- THE SECOND FORM's CARD OF 'etuilaw11.UtfCuts'. -/
def utfCutsUptoCard : Claim7 := { stood := { row := utfCutsUptoRow, standIns := [], harness := (true, "c6c4fd11ae75565c28af14513ac6305bc5c1bb0f89a7db2d55f800f674f966da"), looks := false }, kinds := [], alts := [], laidByText := true, laidKinds := [.data, .pinned], laidTests := true, laidLooks := .later }
def UtfCutsUptoCardSaid : Prop := Claim7.holds Tryd.pinned (.plain (OpenSpec.upto utfCutsSpec)) utfCutsUptoCard

/-- THE SECOND FORM's CARD OF 'etuilaw11.UtfSigns'. -/
def utfSignsUptoCard : Claim7 := { stood := { row := utfSignsUptoRow, standIns := [], harness := (true, "c6c4fd11ae75565c28af14513ac6305bc5c1bb0f89a7db2d55f800f674f966da"), looks := false }, kinds := [], alts := [], laidByText := true, laidKinds := [.data, .pinned], laidTests := true, laidLooks := .later }
def UtfSignsUptoCardSaid : Prop := Claim7.holds Tryd.pinned (.plain (OpenSpec.upto utfSignsSpec)) utfSignsUptoCard

/-- THE SECOND FORM's CARD OF 'etuilaw11.UtfTexts'. -/
def utfTextsUptoCard : Claim7 := { stood := { row := utfTextsUptoRow, standIns := [], harness := (true, "c6c4fd11ae75565c28af14513ac6305bc5c1bb0f89a7db2d55f800f674f966da"), looks := false }, kinds := [], alts := [], laidByText := true, laidKinds := [.data, .pinned], laidTests := true, laidLooks := .later }
def UtfTextsUptoCardSaid : Prop := Claim7.holds Tryd.pinned (.plain (OpenSpec.upto utfTextsSpec)) utfTextsUptoCard

/-- THE SECOND FORM's CARD OF 'etuilaw11.UtfBack'. -/
def utfBackUptoCard : Claim7 := { stood := { row := utfBackUptoRow, standIns := [], harness := (true, "c6c4fd11ae75565c28af14513ac6305bc5c1bb0f89a7db2d55f800f674f966da"), looks := false }, kinds := [], alts := [], laidByText := true, laidKinds := [.data, .pinned], laidTests := true, laidLooks := .later }
def UtfBackUptoCardSaid : Prop := Claim7.holds Tryd.pinned (.plain (OpenSpec.upto utfBackSpec)) utfBackUptoCard

/-- THE SECOND FORM's CARD OF 'etuilaw11.UtfLines'. -/
def utfLinesUptoCard : Claim7 := { stood := { row := utfLinesUptoRow, standIns := [], harness := (true, "c6c4fd11ae75565c28af14513ac6305bc5c1bb0f89a7db2d55f800f674f966da"), looks := false }, kinds := [], alts := [], laidByText := true, laidKinds := [.data, .pinned], laidTests := true, laidLooks := .later }
def UtfLinesUptoCardSaid : Prop := Claim7.holds Tryd.pinned (.plain (OpenSpec.upto utfLinesSpec)) utfLinesUptoCard
end Rows
end Go.Proofs.YthbjibgfhagonaaDoor
