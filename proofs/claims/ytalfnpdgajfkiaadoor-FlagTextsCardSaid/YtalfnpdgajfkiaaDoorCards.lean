/-
  DERIVED. GIVEN WITH THE SEED: THE CARDS: each row of YtalfnpdgajfkiaaDoorRows.lean that lists a variable, with what it lists TIED to the program's text (the seventh form; the later family's looks); each row that meets fmt, with fmt's text TOLD by the authors' own Lean function (tested against real Go, not proved from fmt's source: count such statements apart). THE CARD IS WHAT COUNTS. Prove the row's statement (the work); the ties are given (YtalfnpdgajfkiaaDoorTie.lean); close each card by the builder's one call (the guide's Derived/Test/ToyasCard.lean, 'card_holds'). Laid BY PROGRAM, IN A SANDBOX (cutbox-door.mjs). By AI agents, Wed Nov 11 2026. No macro, syntax, notation, axiom, sorry.
-/
import Derived.Test.YtalfnpdgajfkiaaDoorRows
import GoSem.ClaimSeven
namespace Go.Proofs.YtalfnpdgajfkiaaDoor
namespace Rows

/-- THE TIED CARD OF 'noongunlaw07.FlagTexts'. -/
def flagTextsCard : Claim7 := { stood := { row := flagTextsRow, standIns := [], harness := (true, "f7bc602a454ea26160f474400be1b91aa4cf0c79e1768c0ba995f65449c715a6"), looks := true }, kinds := [], alts := [], laidByText := true, laidKinds := [.data, .data, .data, .sentinel, .sentinel], laidTests := true, laidLooks := .later }
def FlagTextsCardSaid : Prop := Claim7.holds Tryd.pinned (.plain (OpenSpec.ofChange flagTextsSpec)) flagTextsCard

/-- THE TIED CARD OF 'noongunlaw07.FlagTraps'. -/
def flagTrapsCard : Claim7 := { stood := { row := flagTrapsRow, standIns := [], harness := (true, "f7bc602a454ea26160f474400be1b91aa4cf0c79e1768c0ba995f65449c715a6"), looks := true }, kinds := [], alts := [], laidByText := true, laidKinds := [.data, .data, .data], laidTests := true, laidLooks := .later }
def FlagTrapsCardSaid : Prop := Claim7.holds Tryd.pinned (.plain (OpenSpec.ofChange flagTrapsSpec)) flagTrapsCard

/-- THE TIED CARD OF 'noongunlaw09.LedgerTexts'. -/
def ledgerTextsCard : Claim7 := { stood := { row := ledgerTextsRow, standIns := [], harness := (true, "f7bc602a454ea26160f474400be1b91aa4cf0c79e1768c0ba995f65449c715a6"), looks := true }, kinds := [], alts := [], laidByText := true, laidKinds := [.data, .data, .data, .data, .sentinel, .sentinel, .pinned], laidTests := true, laidLooks := .later }
def LedgerTextsCardSaid : Prop := Claim7.holds Tryd.pinned (.plain (OpenSpec.ofChange ledgerTextsSpec)) ledgerTextsCard

/-- THE TIED CARD OF 'noongunlaw06.RateTexts'. -/
def rateTextsCard : Claim7 := { stood := { row := rateTextsRow, standIns := [], harness := (true, "f7bc602a454ea26160f474400be1b91aa4cf0c79e1768c0ba995f65449c715a6"), looks := true }, kinds := [], alts := [], laidByText := true, laidKinds := [.data, .data, .data, .data, .sentinel, .sentinel, .pinned], laidTests := true, laidLooks := .later }
def RateTextsCardSaid : Prop := Claim7.holds Tryd.pinned (.plain (OpenSpec.ofChange rateTextsSpec)) rateTextsCard

/-- THE SECOND FORM's CARD OF 'noongunlaw07.FlagTexts'. -/
def flagTextsUptoCard : Claim7 := { stood := { row := flagTextsUptoRow, standIns := [], harness := (true, "f7bc602a454ea26160f474400be1b91aa4cf0c79e1768c0ba995f65449c715a6"), looks := true }, kinds := [], alts := [], laidByText := true, laidKinds := [.data, .data, .data, .sentinel, .sentinel], laidTests := true, laidLooks := .later }
def FlagTextsUptoCardSaid : Prop := Claim7.holds Tryd.pinned (.plain (OpenSpec.upto flagTextsSpec)) flagTextsUptoCard

/-- THE SECOND FORM's CARD OF 'noongunlaw07.FlagTraps'. -/
def flagTrapsUptoCard : Claim7 := { stood := { row := flagTrapsUptoRow, standIns := [], harness := (true, "f7bc602a454ea26160f474400be1b91aa4cf0c79e1768c0ba995f65449c715a6"), looks := true }, kinds := [], alts := [], laidByText := true, laidKinds := [.data, .data, .data], laidTests := true, laidLooks := .later }
def FlagTrapsUptoCardSaid : Prop := Claim7.holds Tryd.pinned (.plain (OpenSpec.upto flagTrapsSpec)) flagTrapsUptoCard

/-- THE SECOND FORM's CARD OF 'noongunlaw09.LedgerTexts'. -/
def ledgerTextsUptoCard : Claim7 := { stood := { row := ledgerTextsUptoRow, standIns := [], harness := (true, "f7bc602a454ea26160f474400be1b91aa4cf0c79e1768c0ba995f65449c715a6"), looks := true }, kinds := [], alts := [], laidByText := true, laidKinds := [.data, .data, .data, .data, .sentinel, .sentinel, .pinned], laidTests := true, laidLooks := .later }
def LedgerTextsUptoCardSaid : Prop := Claim7.holds Tryd.pinned (.plain (OpenSpec.upto ledgerTextsSpec)) ledgerTextsUptoCard

/-- THE SECOND FORM's CARD OF 'noongunlaw06.RateTexts'. -/
def rateTextsUptoCard : Claim7 := { stood := { row := rateTextsUptoRow, standIns := [], harness := (true, "f7bc602a454ea26160f474400be1b91aa4cf0c79e1768c0ba995f65449c715a6"), looks := true }, kinds := [], alts := [], laidByText := true, laidKinds := [.data, .data, .data, .data, .sentinel, .sentinel, .pinned], laidTests := true, laidLooks := .later }
def RateTextsUptoCardSaid : Prop := Claim7.holds Tryd.pinned (.plain (OpenSpec.upto rateTextsSpec)) rateTextsUptoCard
end Rows
end Go.Proofs.YtalfnpdgajfkiaaDoor
