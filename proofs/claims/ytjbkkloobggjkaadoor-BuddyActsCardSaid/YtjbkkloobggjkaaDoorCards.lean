/-
  DERIVED. GIVEN WITH THE SEED: THE CARDS: each row of YtjbkkloobggjkaaDoorRows.lean that lists a variable, with what it lists TIED to the program's text (the seventh form; the later family's looks); each row that meets fmt, with fmt's text TOLD by the authors' own Lean function (tested against real Go, not proved from fmt's source: count such statements apart). THE CARD IS WHAT COUNTS. Prove the row's statement (the work); the ties are given (YtjbkkloobggjkaaDoorTie.lean); close each card by the builder's one call (the guide's Derived/Test/ToyasCard.lean, 'card_holds'). Laid BY PROGRAM, IN A SANDBOX (cutbox-door.mjs). By AI agents, Wed Nov 11 2026. No macro, syntax, notation, axiom, sorry.
-/
import Derived.Test.YtjbkkloobggjkaaDoorRows
import GoSem.ClaimSeven
namespace Go.Proofs.YtjbkkloobggjkaaDoor
namespace Rows

/-- THE TIED CARD OF 'quartermasterlaw03.BuddyActs'. -/
def buddyActsCard : Claim7 := { stood := { row := buddyActsRow, standIns := [], harness := (true, "ea1f98ae11c07a904233511ee286d793b1e681d5e202bac67663b4ed31940ce5"), looks := false }, kinds := [], alts := [], laidByText := true, laidKinds := [.data, .data], laidTests := true, laidLooks := .later }
def BuddyActsCardSaid : Prop := Claim7.holds Tryd.pinned (.plain (OpenSpec.ofChange buddyActsSpec)) buddyActsCard

/-- THE TIED CARD OF 'quartermasterlaw03.BuddyCovers'. -/
def buddyCoversCard : Claim7 := { stood := { row := buddyCoversRow, standIns := [], harness := (true, "ea1f98ae11c07a904233511ee286d793b1e681d5e202bac67663b4ed31940ce5"), looks := false }, kinds := [], alts := [], laidByText := true, laidKinds := [.data, .data], laidTests := true, laidLooks := .later }
def BuddyCoversCardSaid : Prop := Claim7.holds Tryd.pinned (.plain (OpenSpec.ofChange buddyCoversSpec)) buddyCoversCard

/-- THE TIED CARD OF 'quartermasterlaw03.BuddyApart'. -/
def buddyApartCard : Claim7 := { stood := { row := buddyApartRow, standIns := [], harness := (true, "ea1f98ae11c07a904233511ee286d793b1e681d5e202bac67663b4ed31940ce5"), looks := false }, kinds := [], alts := [], laidByText := true, laidKinds := [.data, .data], laidTests := true, laidLooks := .later }
def BuddyApartCardSaid : Prop := Claim7.holds Tryd.pinned (.plain (OpenSpec.ofChange buddyApartSpec)) buddyApartCard

/-- THE TIED CARD OF 'quartermasterlaw03.BuddyFits'. -/
def buddyFitsCard : Claim7 := { stood := { row := buddyFitsRow, standIns := [], harness := (true, "ea1f98ae11c07a904233511ee286d793b1e681d5e202bac67663b4ed31940ce5"), looks := false }, kinds := [], alts := [], laidByText := true, laidKinds := [.data, .data], laidTests := true, laidLooks := .later }
def BuddyFitsCardSaid : Prop := Claim7.holds Tryd.pinned (.plain (OpenSpec.ofChange buddyFitsSpec)) buddyFitsCard

/-- THE SECOND FORM's CARD OF 'quartermasterlaw03.BuddyActs'. -/
def buddyActsUptoCard : Claim7 := { stood := { row := buddyActsUptoRow, standIns := [], harness := (true, "ea1f98ae11c07a904233511ee286d793b1e681d5e202bac67663b4ed31940ce5"), looks := false }, kinds := [], alts := [], laidByText := true, laidKinds := [.data, .data], laidTests := true, laidLooks := .later }
def BuddyActsUptoCardSaid : Prop := Claim7.holds Tryd.pinned (.plain (OpenSpec.upto buddyActsSpec)) buddyActsUptoCard

/-- THE SECOND FORM's CARD OF 'quartermasterlaw03.BuddyCovers'. -/
def buddyCoversUptoCard : Claim7 := { stood := { row := buddyCoversUptoRow, standIns := [], harness := (true, "ea1f98ae11c07a904233511ee286d793b1e681d5e202bac67663b4ed31940ce5"), looks := false }, kinds := [], alts := [], laidByText := true, laidKinds := [.data, .data], laidTests := true, laidLooks := .later }
def BuddyCoversUptoCardSaid : Prop := Claim7.holds Tryd.pinned (.plain (OpenSpec.upto buddyCoversSpec)) buddyCoversUptoCard

/-- THE SECOND FORM's CARD OF 'quartermasterlaw03.BuddyApart'. -/
def buddyApartUptoCard : Claim7 := { stood := { row := buddyApartUptoRow, standIns := [], harness := (true, "ea1f98ae11c07a904233511ee286d793b1e681d5e202bac67663b4ed31940ce5"), looks := false }, kinds := [], alts := [], laidByText := true, laidKinds := [.data, .data], laidTests := true, laidLooks := .later }
def BuddyApartUptoCardSaid : Prop := Claim7.holds Tryd.pinned (.plain (OpenSpec.upto buddyApartSpec)) buddyApartUptoCard

/-- THE SECOND FORM's CARD OF 'quartermasterlaw03.BuddyFits'. -/
def buddyFitsUptoCard : Claim7 := { stood := { row := buddyFitsUptoRow, standIns := [], harness := (true, "ea1f98ae11c07a904233511ee286d793b1e681d5e202bac67663b4ed31940ce5"), looks := false }, kinds := [], alts := [], laidByText := true, laidKinds := [.data, .data], laidTests := true, laidLooks := .later }
def BuddyFitsUptoCardSaid : Prop := Claim7.holds Tryd.pinned (.plain (OpenSpec.upto buddyFitsSpec)) buddyFitsUptoCard
end Rows
end Go.Proofs.YtjbkkloobggjkaaDoor
