/-
  DERIVED. GIVEN WITH THE SEED: THE CARDS: each row of YtflkoabgkgegjaaGreatDoorRows.lean that lists a variable, with what it lists TIED to the program's text (the seventh form; the later family's looks); each row that meets fmt, with fmt's text TOLD by the authors' own Lean function (tested against real Go, not proved from fmt's source: count such statements apart). THE CARD IS WHAT COUNTS. Prove the row's statement (the work); the ties are given (YtflkoabgkgegjaaGreatDoorTie.lean); close each card by the builder's one call (the guide's Derived/Test/ToyasCard.lean, 'card_holds'). Laid BY PROGRAM, IN A SANDBOX (cutbox-door.mjs). By AI agents, Wed Nov 11 2026. No macro, syntax, notation, axiom, sorry.
-/
import Derived.Test.YtflkoabgkgegjaaGreatDoorRows
import GoSem.ClaimSeven
namespace Go.Proofs.YtflkoabgkgegjaaGreatDoor
namespace Rows

/-- THE TIED CARD OF 'quartermasterlaw09.TableActs'. -/
def tableActsCard : Claim7 := { stood := { row := tableActsRow, standIns := [], harness := (true, "3f8e4d3046029459b2a0e1d5cc27ed066f997c672f535eee64aec7c16913188d"), looks := false }, kinds := [], alts := [], laidByText := true, laidKinds := [.data, .data, .data], laidTests := true, laidLooks := .later }
def TableActsCardSaid : Prop := Claim7.holds Tryz.pinned (.plain (OpenSpec.ofChange tableActsSpec)) tableActsCard

/-- THE SECOND FORM's CARD OF 'quartermasterlaw09.TableActs'. -/
def tableActsUptoCard : Claim7 := { stood := { row := tableActsUptoRow, standIns := [], harness := (true, "3f8e4d3046029459b2a0e1d5cc27ed066f997c672f535eee64aec7c16913188d"), looks := false }, kinds := [], alts := [], laidByText := true, laidKinds := [.data, .data, .data], laidTests := true, laidLooks := .later }
def TableActsUptoCardSaid : Prop := Claim7.holds Tryz.pinned (.plain (OpenSpec.upto tableActsSpec)) tableActsUptoCard
end Rows
end Go.Proofs.YtflkoabgkgegjaaGreatDoor
