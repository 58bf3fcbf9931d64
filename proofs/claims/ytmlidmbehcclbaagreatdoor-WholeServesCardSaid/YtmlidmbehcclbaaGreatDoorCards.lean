/-
  DERIVED. GIVEN WITH THE SEED: THE CARDS: each row of YtmlidmbehcclbaaGreatDoorRows.lean that lists a variable, with what it lists TIED to the program's text (the seventh form; the later family's looks); each row that meets fmt, with fmt's text TOLD by the authors' own Lean function (tested against real Go, not proved from fmt's source: count such statements apart). THE CARD IS WHAT COUNTS. Prove the row's statement (the work); the ties are given (YtmlidmbehcclbaaGreatDoorTie.lean); close each card by the builder's one call (the guide's Derived/Test/ToyasCard.lean, 'card_holds'). Laid BY PROGRAM, IN A SANDBOX (cutbox-door.mjs). By AI agents, Wed Nov 11 2026. No macro, syntax, notation, axiom, sorry.
-/
import Derived.Test.YtmlidmbehcclbaaGreatDoorRows
import GoSem.ClaimSeven
namespace Go.Proofs.YtmlidmbehcclbaaGreatDoor
namespace Rows

/-- THE TIED CARD OF 'quartermastertop.WholeServes'. -/
def wholeServesCard : Claim7 := { stood := { row := wholeServesRow, standIns := [], harness := (true, "3a9a0838c4b379fc88099c4e911decbf4b18f49eb8c9084239ede5711840c7da"), looks := false }, kinds := [], alts := [], laidByText := true, laidKinds := [.data, .data, .data, .data], laidTests := true, laidLooks := .later }
def WholeServesCardSaid : Prop := Claim7.holds Tryz.pinned (.plain (OpenSpec.ofChange wholeServesSpec)) wholeServesCard

/-- THE SECOND FORM's CARD OF 'quartermastertop.WholeServes'. -/
def wholeServesUptoCard : Claim7 := { stood := { row := wholeServesUptoRow, standIns := [], harness := (true, "3a9a0838c4b379fc88099c4e911decbf4b18f49eb8c9084239ede5711840c7da"), looks := false }, kinds := [], alts := [], laidByText := true, laidKinds := [.data, .data, .data, .data], laidTests := true, laidLooks := .later }
def WholeServesUptoCardSaid : Prop := Claim7.holds Tryz.pinned (.plain (OpenSpec.upto wholeServesSpec)) wholeServesUptoCard
end Rows
end Go.Proofs.YtmlidmbehcclbaaGreatDoor
