/-
  DERIVED. GIVEN WITH THE SEED: THE CARDS: each row of YtgilcibfknafiaaGreatDoorRows.lean that lists a variable, with what it lists TIED to the program's text (the seventh form; the later family's looks); each row that meets fmt, with fmt's text TOLD by the authors' own Lean function (tested against real Go, not proved from fmt's source: count such statements apart). THE CARD IS WHAT COUNTS. Prove the row's statement (the work); the ties are given (YtgilcibfknafiaaGreatDoorTie.lean); close each card by the builder's one call (the guide's Derived/Test/ToyasCard.lean, 'card_holds'). Laid BY PROGRAM, IN A SANDBOX (cutbox-door.mjs). By AI agents, Wed Nov 11 2026. No macro, syntax, notation, axiom, sorry.
-/
import Derived.Test.YtgilcibfknafiaaGreatDoorRows
import GoSem.ClaimSeven
namespace Go.Proofs.YtgilcibfknafiaaGreatDoor
namespace Rows

/-- THE TIED CARD OF 'proofprogramslaw10.ProofHyps'. -/
def proofHypsCard : Claim7 := { stood := { row := proofHypsRow, standIns := [], harness := (true, "a15158022266383492caedf54ff2364eb30db27f8a1bcaf81ba2c9cc5f76e755"), looks := false }, kinds := [], alts := [], laidByText := true, laidKinds := [.data, .data], laidTests := true, laidLooks := .later }
def ProofHypsCardSaid : Prop := Claim7.holds Tryz.pinned (.plain (OpenSpec.ofChange proofHypsSpec)) proofHypsCard

/-- THE TIED CARD OF 'proofprogramslaw10.ProofKeeps'. -/
def proofKeepsCard : Claim7 := { stood := { row := proofKeepsRow, standIns := [], harness := (true, "a15158022266383492caedf54ff2364eb30db27f8a1bcaf81ba2c9cc5f76e755"), looks := false }, kinds := [], alts := [], laidByText := true, laidKinds := [.data, .data], laidTests := true, laidLooks := .later }
def ProofKeepsCardSaid : Prop := Claim7.holds Tryz.pinned (.plain (OpenSpec.ofChange proofKeepsSpec)) proofKeepsCard

/-- THE TIED CARD OF 'proofprogramslaw10.ProofLifts'. -/
def proofLiftsCard : Claim7 := { stood := { row := proofLiftsRow, standIns := [], harness := (true, "a15158022266383492caedf54ff2364eb30db27f8a1bcaf81ba2c9cc5f76e755"), looks := false }, kinds := [], alts := [], laidByText := true, laidKinds := [.data, .data], laidTests := true, laidLooks := .later }
def ProofLiftsCardSaid : Prop := Claim7.holds Tryz.pinned (.plain (OpenSpec.ofChange proofLiftsSpec)) proofLiftsCard

/-- THE TIED CARD OF 'proofprogramslaw07.FormulaMatches'. -/
def formulaMatchesCard : Claim7 := { stood := { row := formulaMatchesRow, standIns := [], harness := (true, "a15158022266383492caedf54ff2364eb30db27f8a1bcaf81ba2c9cc5f76e755"), looks := false }, kinds := [], alts := [], laidByText := true, laidKinds := [.data], laidTests := true, laidLooks := .later }
def FormulaMatchesCardSaid : Prop := Claim7.holds Tryz.pinned (.plain (OpenSpec.ofChange formulaMatchesSpec)) formulaMatchesCard

/-- THE TIED CARD OF 'proofprogramslaw07.FormulaOrder'. -/
def formulaOrderCard : Claim7 := { stood := { row := formulaOrderRow, standIns := [], harness := (true, "a15158022266383492caedf54ff2364eb30db27f8a1bcaf81ba2c9cc5f76e755"), looks := false }, kinds := [], alts := [], laidByText := true, laidKinds := [.data], laidTests := true, laidLooks := .later }
def FormulaOrderCardSaid : Prop := Claim7.holds Tryz.pinned (.plain (OpenSpec.ofChange formulaOrderSpec)) formulaOrderCard

/-- THE TIED CARD OF 'proofprogramslaw10.ProofCommutes'. -/
def proofCommutesCard : Claim7 := { stood := { row := proofCommutesRow, standIns := [], harness := (true, "a15158022266383492caedf54ff2364eb30db27f8a1bcaf81ba2c9cc5f76e755"), looks := false }, kinds := [], alts := [], laidByText := true, laidKinds := [.data, .data], laidTests := true, laidLooks := .later }
def ProofCommutesCardSaid : Prop := Claim7.holds Tryz.pinned (.plain (OpenSpec.ofChange proofCommutesSpec)) proofCommutesCard

/-- THE TIED CARD OF 'proofprogramslaw07.FormulaLifts'. -/
def formulaLiftsCard : Claim7 := { stood := { row := formulaLiftsRow, standIns := [], harness := (true, "a15158022266383492caedf54ff2364eb30db27f8a1bcaf81ba2c9cc5f76e755"), looks := false }, kinds := [], alts := [], laidByText := true, laidKinds := [.data], laidTests := true, laidLooks := .later }
def FormulaLiftsCardSaid : Prop := Claim7.holds Tryz.pinned (.plain (OpenSpec.ofChange formulaLiftsSpec)) formulaLiftsCard

/-- THE TIED CARD OF 'proofprogramslaw07.FormulaDoes'. -/
def formulaDoesCard : Claim7 := { stood := { row := formulaDoesRow, standIns := [], harness := (true, "a15158022266383492caedf54ff2364eb30db27f8a1bcaf81ba2c9cc5f76e755"), looks := false }, kinds := [], alts := [], laidByText := true, laidKinds := [.data], laidTests := true, laidLooks := .later }
def FormulaDoesCardSaid : Prop := Claim7.holds Tryz.pinned (.plain (OpenSpec.ofChange formulaDoesSpec)) formulaDoesCard

/-- THE TIED CARD OF 'proofprogramslaw10.ProofDoes'. -/
def proofDoesCard : Claim7 := { stood := { row := proofDoesRow, standIns := [], harness := (true, "a15158022266383492caedf54ff2364eb30db27f8a1bcaf81ba2c9cc5f76e755"), looks := false }, kinds := [], alts := [], laidByText := true, laidKinds := [.data, .data], laidTests := true, laidLooks := .later }
def ProofDoesCardSaid : Prop := Claim7.holds Tryz.pinned (.plain (OpenSpec.ofChange proofDoesSpec)) proofDoesCard

/-- THE TIED CARD OF 'proofprogramslaw07.FormulaSame'. -/
def formulaSameCard : Claim7 := { stood := { row := formulaSameRow, standIns := [], harness := (true, "a15158022266383492caedf54ff2364eb30db27f8a1bcaf81ba2c9cc5f76e755"), looks := false }, kinds := [], alts := [], laidByText := true, laidKinds := [.data], laidTests := true, laidLooks := .later }
def FormulaSameCardSaid : Prop := Claim7.holds Tryz.pinned (.plain (OpenSpec.ofChange formulaSameSpec)) formulaSameCard

/-- THE SECOND FORM's CARD OF 'proofprogramslaw10.ProofHyps'. -/
def proofHypsUptoCard : Claim7 := { stood := { row := proofHypsUptoRow, standIns := [], harness := (true, "a15158022266383492caedf54ff2364eb30db27f8a1bcaf81ba2c9cc5f76e755"), looks := false }, kinds := [], alts := [], laidByText := true, laidKinds := [.data, .data], laidTests := true, laidLooks := .later }
def ProofHypsUptoCardSaid : Prop := Claim7.holds Tryz.pinned (.plain (OpenSpec.upto proofHypsSpec)) proofHypsUptoCard

/-- THE SECOND FORM's CARD OF 'proofprogramslaw10.ProofKeeps'. -/
def proofKeepsUptoCard : Claim7 := { stood := { row := proofKeepsUptoRow, standIns := [], harness := (true, "a15158022266383492caedf54ff2364eb30db27f8a1bcaf81ba2c9cc5f76e755"), looks := false }, kinds := [], alts := [], laidByText := true, laidKinds := [.data, .data], laidTests := true, laidLooks := .later }
def ProofKeepsUptoCardSaid : Prop := Claim7.holds Tryz.pinned (.plain (OpenSpec.upto proofKeepsSpec)) proofKeepsUptoCard

/-- THE SECOND FORM's CARD OF 'proofprogramslaw10.ProofLifts'. -/
def proofLiftsUptoCard : Claim7 := { stood := { row := proofLiftsUptoRow, standIns := [], harness := (true, "a15158022266383492caedf54ff2364eb30db27f8a1bcaf81ba2c9cc5f76e755"), looks := false }, kinds := [], alts := [], laidByText := true, laidKinds := [.data, .data], laidTests := true, laidLooks := .later }
def ProofLiftsUptoCardSaid : Prop := Claim7.holds Tryz.pinned (.plain (OpenSpec.upto proofLiftsSpec)) proofLiftsUptoCard

/-- THE SECOND FORM's CARD OF 'proofprogramslaw07.FormulaMatches'. -/
def formulaMatchesUptoCard : Claim7 := { stood := { row := formulaMatchesUptoRow, standIns := [], harness := (true, "a15158022266383492caedf54ff2364eb30db27f8a1bcaf81ba2c9cc5f76e755"), looks := false }, kinds := [], alts := [], laidByText := true, laidKinds := [.data], laidTests := true, laidLooks := .later }
def FormulaMatchesUptoCardSaid : Prop := Claim7.holds Tryz.pinned (.plain (OpenSpec.upto formulaMatchesSpec)) formulaMatchesUptoCard

/-- THE SECOND FORM's CARD OF 'proofprogramslaw07.FormulaOrder'. -/
def formulaOrderUptoCard : Claim7 := { stood := { row := formulaOrderUptoRow, standIns := [], harness := (true, "a15158022266383492caedf54ff2364eb30db27f8a1bcaf81ba2c9cc5f76e755"), looks := false }, kinds := [], alts := [], laidByText := true, laidKinds := [.data], laidTests := true, laidLooks := .later }
def FormulaOrderUptoCardSaid : Prop := Claim7.holds Tryz.pinned (.plain (OpenSpec.upto formulaOrderSpec)) formulaOrderUptoCard

/-- THE SECOND FORM's CARD OF 'proofprogramslaw10.ProofCommutes'. -/
def proofCommutesUptoCard : Claim7 := { stood := { row := proofCommutesUptoRow, standIns := [], harness := (true, "a15158022266383492caedf54ff2364eb30db27f8a1bcaf81ba2c9cc5f76e755"), looks := false }, kinds := [], alts := [], laidByText := true, laidKinds := [.data, .data], laidTests := true, laidLooks := .later }
def ProofCommutesUptoCardSaid : Prop := Claim7.holds Tryz.pinned (.plain (OpenSpec.upto proofCommutesSpec)) proofCommutesUptoCard

/-- THE SECOND FORM's CARD OF 'proofprogramslaw07.FormulaLifts'. -/
def formulaLiftsUptoCard : Claim7 := { stood := { row := formulaLiftsUptoRow, standIns := [], harness := (true, "a15158022266383492caedf54ff2364eb30db27f8a1bcaf81ba2c9cc5f76e755"), looks := false }, kinds := [], alts := [], laidByText := true, laidKinds := [.data], laidTests := true, laidLooks := .later }
def FormulaLiftsUptoCardSaid : Prop := Claim7.holds Tryz.pinned (.plain (OpenSpec.upto formulaLiftsSpec)) formulaLiftsUptoCard

/-- THE SECOND FORM's CARD OF 'proofprogramslaw07.FormulaDoes'. -/
def formulaDoesUptoCard : Claim7 := { stood := { row := formulaDoesUptoRow, standIns := [], harness := (true, "a15158022266383492caedf54ff2364eb30db27f8a1bcaf81ba2c9cc5f76e755"), looks := false }, kinds := [], alts := [], laidByText := true, laidKinds := [.data], laidTests := true, laidLooks := .later }
def FormulaDoesUptoCardSaid : Prop := Claim7.holds Tryz.pinned (.plain (OpenSpec.upto formulaDoesSpec)) formulaDoesUptoCard

/-- THE SECOND FORM's CARD OF 'proofprogramslaw10.ProofDoes'. -/
def proofDoesUptoCard : Claim7 := { stood := { row := proofDoesUptoRow, standIns := [], harness := (true, "a15158022266383492caedf54ff2364eb30db27f8a1bcaf81ba2c9cc5f76e755"), looks := false }, kinds := [], alts := [], laidByText := true, laidKinds := [.data, .data], laidTests := true, laidLooks := .later }
def ProofDoesUptoCardSaid : Prop := Claim7.holds Tryz.pinned (.plain (OpenSpec.upto proofDoesSpec)) proofDoesUptoCard

/-- THE SECOND FORM's CARD OF 'proofprogramslaw07.FormulaSame'. -/
def formulaSameUptoCard : Claim7 := { stood := { row := formulaSameUptoRow, standIns := [], harness := (true, "a15158022266383492caedf54ff2364eb30db27f8a1bcaf81ba2c9cc5f76e755"), looks := false }, kinds := [], alts := [], laidByText := true, laidKinds := [.data], laidTests := true, laidLooks := .later }
def FormulaSameUptoCardSaid : Prop := Claim7.holds Tryz.pinned (.plain (OpenSpec.upto formulaSameSpec)) formulaSameUptoCard
end Rows
end Go.Proofs.YtgilcibfknafiaaGreatDoor
