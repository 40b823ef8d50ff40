/-
  DERIVED. GIVEN WITH THE SEED: THE CARDS: each row of YthggagophcnkfaaGreatDoorRows.lean that lists a variable, with what it lists TIED to the program's text (the seventh form; the later family's looks); each row that meets fmt, with fmt's text TOLD by the authors' own Lean function (tested against real Go, not proved from fmt's source: count such statements apart). THE CARD IS WHAT COUNTS. Prove the row's statement (the work); the ties are given (YthggagophcnkfaaGreatDoorTie.lean); close each card by the builder's one call (the guide's Derived/Test/ToyasCard.lean, 'card_holds'). Laid BY PROGRAM, IN A SANDBOX (cutbox-door.mjs). By AI agents, Wed Nov 11 2026. No macro, syntax, notation, axiom, sorry.
-/
import Derived.Test.YthggagophcnkfaaGreatDoorRows
import GoSem.ClaimSeven
namespace Go.Proofs.YthggagophcnkfaaGreatDoor
namespace Rows

/-- THE TIED CARD OF 'confluentlaw04.ParserParses'. -/
def parserParsesCard : Claim7 := { stood := { row := parserParsesRow, standIns := [], harness := (true, "60bb9a571c2cab4a90bd8dac787601d677fac1ad14b8a76e8286c809d6cea58f"), looks := true }, kinds := [], alts := [], laidByText := true, laidKinds := [.data, .data, .data, .data, .sentinel, .sentinel, .listed, .data, .pinned], laidTests := true, laidLooks := .later }
def ParserParsesCardSaid : Prop := Claim7.holds Tryz.pinned (.plain (OpenSpec.ofChange parserParsesSpec)) parserParsesCard

/-- THE TIED CARD OF 'confluentlaw04.ParserReports'. -/
def parserReportsCard : Claim7 := { stood := { row := parserReportsRow, standIns := [], harness := (true, "60bb9a571c2cab4a90bd8dac787601d677fac1ad14b8a76e8286c809d6cea58f"), looks := true }, kinds := [], alts := [], laidByText := true, laidKinds := [.data, .data, .data, .data, .sentinel, .sentinel, .listed, .data, .pinned], laidTests := true, laidLooks := .later }
def ParserReportsCardSaid : Prop := Claim7.holds Tryz.pinned (.plain (OpenSpec.ofChange parserReportsSpec)) parserReportsCard

/-- THE TIED CARD OF 'confluentlaw04.ParserExpressions'. -/
def parserExpressionsCard : Claim7 := { stood := { row := parserExpressionsRow, standIns := [], harness := (true, "60bb9a571c2cab4a90bd8dac787601d677fac1ad14b8a76e8286c809d6cea58f"), looks := true }, kinds := [], alts := [], laidByText := true, laidKinds := [.data, .data, .data, .data, .sentinel, .sentinel, .listed, .data, .pinned], laidTests := true, laidLooks := .later }
def ParserExpressionsCardSaid : Prop := Claim7.holds Tryz.pinned (.plain (OpenSpec.ofChange parserExpressionsSpec)) parserExpressionsCard

/-- THE TIED CARD OF 'confluentlaw04.ParserJoins'. -/
def parserJoinsCard : Claim7 := { stood := { row := parserJoinsRow, standIns := [], harness := (true, "60bb9a571c2cab4a90bd8dac787601d677fac1ad14b8a76e8286c809d6cea58f"), looks := true }, kinds := [], alts := [], laidByText := true, laidKinds := [.data, .data, .data, .data, .sentinel, .sentinel, .listed, .data, .pinned], laidTests := true, laidLooks := .later }
def ParserJoinsCardSaid : Prop := Claim7.holds Tryz.pinned (.plain (OpenSpec.ofChange parserJoinsSpec)) parserJoinsCard

/-- THE TIED CARD OF 'confluentlaw04.ParserNests'. -/
def parserNestsCard : Claim7 := { stood := { row := parserNestsRow, standIns := [], harness := (true, "60bb9a571c2cab4a90bd8dac787601d677fac1ad14b8a76e8286c809d6cea58f"), looks := true }, kinds := [], alts := [], laidByText := true, laidKinds := [.data, .data, .data, .data, .sentinel, .sentinel, .listed, .data, .pinned], laidTests := true, laidLooks := .later }
def ParserNestsCardSaid : Prop := Claim7.holds Tryz.pinned (.plain (OpenSpec.ofChange parserNestsSpec)) parserNestsCard

/-- THE TIED CARD OF 'confluentlaw04.ParserSpaces'. -/
def parserSpacesCard : Claim7 := { stood := { row := parserSpacesRow, standIns := [], harness := (true, "60bb9a571c2cab4a90bd8dac787601d677fac1ad14b8a76e8286c809d6cea58f"), looks := true }, kinds := [], alts := [], laidByText := true, laidKinds := [.data, .data, .data, .data, .sentinel, .sentinel, .listed, .data, .pinned], laidTests := true, laidLooks := .later }
def ParserSpacesCardSaid : Prop := Claim7.holds Tryz.pinned (.plain (OpenSpec.ofChange parserSpacesSpec)) parserSpacesCard

/-- THE SECOND FORM's CARD OF 'confluentlaw04.ParserParses'. -/
def parserParsesUptoCard : Claim7 := { stood := { row := parserParsesUptoRow, standIns := [], harness := (true, "60bb9a571c2cab4a90bd8dac787601d677fac1ad14b8a76e8286c809d6cea58f"), looks := true }, kinds := [], alts := [], laidByText := true, laidKinds := [.data, .data, .data, .data, .sentinel, .sentinel, .listed, .data, .pinned], laidTests := true, laidLooks := .later }
def ParserParsesUptoCardSaid : Prop := Claim7.holds Tryz.pinned (.plain (OpenSpec.upto parserParsesSpec)) parserParsesUptoCard

/-- THE SECOND FORM's CARD OF 'confluentlaw04.ParserReports'. -/
def parserReportsUptoCard : Claim7 := { stood := { row := parserReportsUptoRow, standIns := [], harness := (true, "60bb9a571c2cab4a90bd8dac787601d677fac1ad14b8a76e8286c809d6cea58f"), looks := true }, kinds := [], alts := [], laidByText := true, laidKinds := [.data, .data, .data, .data, .sentinel, .sentinel, .listed, .data, .pinned], laidTests := true, laidLooks := .later }
def ParserReportsUptoCardSaid : Prop := Claim7.holds Tryz.pinned (.plain (OpenSpec.upto parserReportsSpec)) parserReportsUptoCard

/-- THE SECOND FORM's CARD OF 'confluentlaw04.ParserExpressions'. -/
def parserExpressionsUptoCard : Claim7 := { stood := { row := parserExpressionsUptoRow, standIns := [], harness := (true, "60bb9a571c2cab4a90bd8dac787601d677fac1ad14b8a76e8286c809d6cea58f"), looks := true }, kinds := [], alts := [], laidByText := true, laidKinds := [.data, .data, .data, .data, .sentinel, .sentinel, .listed, .data, .pinned], laidTests := true, laidLooks := .later }
def ParserExpressionsUptoCardSaid : Prop := Claim7.holds Tryz.pinned (.plain (OpenSpec.upto parserExpressionsSpec)) parserExpressionsUptoCard

/-- THE SECOND FORM's CARD OF 'confluentlaw04.ParserJoins'. -/
def parserJoinsUptoCard : Claim7 := { stood := { row := parserJoinsUptoRow, standIns := [], harness := (true, "60bb9a571c2cab4a90bd8dac787601d677fac1ad14b8a76e8286c809d6cea58f"), looks := true }, kinds := [], alts := [], laidByText := true, laidKinds := [.data, .data, .data, .data, .sentinel, .sentinel, .listed, .data, .pinned], laidTests := true, laidLooks := .later }
def ParserJoinsUptoCardSaid : Prop := Claim7.holds Tryz.pinned (.plain (OpenSpec.upto parserJoinsSpec)) parserJoinsUptoCard

/-- THE SECOND FORM's CARD OF 'confluentlaw04.ParserNests'. -/
def parserNestsUptoCard : Claim7 := { stood := { row := parserNestsUptoRow, standIns := [], harness := (true, "60bb9a571c2cab4a90bd8dac787601d677fac1ad14b8a76e8286c809d6cea58f"), looks := true }, kinds := [], alts := [], laidByText := true, laidKinds := [.data, .data, .data, .data, .sentinel, .sentinel, .listed, .data, .pinned], laidTests := true, laidLooks := .later }
def ParserNestsUptoCardSaid : Prop := Claim7.holds Tryz.pinned (.plain (OpenSpec.upto parserNestsSpec)) parserNestsUptoCard

/-- THE SECOND FORM's CARD OF 'confluentlaw04.ParserSpaces'. -/
def parserSpacesUptoCard : Claim7 := { stood := { row := parserSpacesUptoRow, standIns := [], harness := (true, "60bb9a571c2cab4a90bd8dac787601d677fac1ad14b8a76e8286c809d6cea58f"), looks := true }, kinds := [], alts := [], laidByText := true, laidKinds := [.data, .data, .data, .data, .sentinel, .sentinel, .listed, .data, .pinned], laidTests := true, laidLooks := .later }
def ParserSpacesUptoCardSaid : Prop := Claim7.holds Tryz.pinned (.plain (OpenSpec.upto parserSpacesSpec)) parserSpacesUptoCard
end Rows
end Go.Proofs.YthggagophcnkfaaGreatDoor
