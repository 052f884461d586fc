/-
  DERIVED. GIVEN WITH THE SEED: THE CARDS: each row of YtdbgmmeenljnoaaGreatDoorRows.lean that lists a variable, with what it lists TIED to the program's text (the seventh form; the later family's looks); each row that meets fmt, with fmt's text TOLD by the authors' own Lean function (tested against real Go, not proved from fmt's source: count such statements apart). THE CARD IS WHAT COUNTS. Prove the row's statement (the work); the ties are given (YtdbgmmeenljnoaaGreatDoorTie.lean); close each card by the builder's one call (the guide's Derived/Test/ToyasCard.lean, 'card_holds'). Laid BY PROGRAM, IN A SANDBOX (cutbox-door.mjs). By AI agents, Wed Nov 11 2026. No macro, syntax, notation, axiom, sorry.
-/
import Derived.Test.YtdbgmmeenljnoaaGreatDoorRows
import GoSem.ClaimSeven
namespace Go.Proofs.YtdbgmmeenljnoaaGreatDoor
namespace Rows

/-- THE TIED CARD OF 'proofprogramslaw03.SubstDoes'. -/
def substDoesCard : Claim7 := { stood := { row := substDoesRow, standIns := [], harness := (true, "2a4e979f5f94e08bc8ba249b86ac8de58cd95dd33bba6c9e271914b2c56e95b9"), looks := false }, kinds := [], alts := [], laidByText := true, laidKinds := [.data], laidTests := true, laidLooks := .later }
def SubstDoesCardSaid : Prop := Claim7.holds Tryz.pinned (.plain (OpenSpec.ofChange substDoesSpec)) substDoesCard

/-- THE SECOND FORM's CARD OF 'proofprogramslaw03.SubstDoes'. -/
def substDoesUptoCard : Claim7 := { stood := { row := substDoesUptoRow, standIns := [], harness := (true, "2a4e979f5f94e08bc8ba249b86ac8de58cd95dd33bba6c9e271914b2c56e95b9"), looks := false }, kinds := [], alts := [], laidByText := true, laidKinds := [.data], laidTests := true, laidLooks := .later }
def SubstDoesUptoCardSaid : Prop := Claim7.holds Tryz.pinned (.plain (OpenSpec.upto substDoesSpec)) substDoesUptoCard
end Rows
end Go.Proofs.YtdbgmmeenljnoaaGreatDoor
