/-
  DERIVED. GIVEN WITH THE SEED: THE CARDS: each row of YtflkoabgkgegjaaDoorRows.lean that lists a variable, with what it lists TIED to the program's text (the seventh form; the later family's looks); each row that meets fmt, with fmt's text TOLD by the authors' own Lean function (tested against real Go, not proved from fmt's source: count such statements apart). THE CARD IS WHAT COUNTS. Prove the row's statement (the work); the ties are given (YtflkoabgkgegjaaDoorTie.lean); close each card by the builder's one call (the guide's Derived/Test/ToyasCard.lean, 'card_holds'). Laid BY PROGRAM, IN A SANDBOX (cutbox-door.mjs). By AI agents, Wed Nov 11 2026. No macro, syntax, notation, axiom, sorry.
-/
import Derived.Test.YtflkoabgkgegjaaDoorRows
import GoSem.ClaimSeven
namespace Go.Proofs.YtflkoabgkgegjaaDoor
namespace Rows

/-- THE TIED CARD OF 'quartermasterlaw09.TableBack'. -/
def tableBackCard : Claim7 := { stood := { row := tableBackRow, standIns := [], harness := (true, "3a2edd82f6b554fa950f14e19d77731873fa06be10e845049a2b68acb36f725e"), looks := false }, kinds := [], alts := [], laidByText := true, laidKinds := [.data, .data, .data], laidTests := true, laidLooks := .later }
def TableBackCardSaid : Prop := Claim7.holds Tryd.pinned (.plain (OpenSpec.ofChange tableBackSpec)) tableBackCard

/-- THE TIED CARD OF 'quartermasterlaw09.TableFails'. -/
def tableFailsCard : Claim7 := { stood := { row := tableFailsRow, standIns := [], harness := (true, "3a2edd82f6b554fa950f14e19d77731873fa06be10e845049a2b68acb36f725e"), looks := false }, kinds := [], alts := [], laidByText := true, laidKinds := [.data, .data, .data], laidTests := true, laidLooks := .later }
def TableFailsCardSaid : Prop := Claim7.holds Tryd.pinned (.plain (OpenSpec.ofChange tableFailsSpec)) tableFailsCard

/-- THE TIED CARD OF 'quartermasterlaw09.TableLeaves'. -/
def tableLeavesCard : Claim7 := { stood := { row := tableLeavesRow, standIns := [], harness := (true, "3a2edd82f6b554fa950f14e19d77731873fa06be10e845049a2b68acb36f725e"), looks := false }, kinds := [], alts := [], laidByText := true, laidKinds := [.data, .data, .data], laidTests := true, laidLooks := .later }
def TableLeavesCardSaid : Prop := Claim7.holds Tryd.pinned (.plain (OpenSpec.ofChange tableLeavesSpec)) tableLeavesCard

/-- THE SECOND FORM's CARD OF 'quartermasterlaw09.TableBack'. -/
def tableBackUptoCard : Claim7 := { stood := { row := tableBackUptoRow, standIns := [], harness := (true, "3a2edd82f6b554fa950f14e19d77731873fa06be10e845049a2b68acb36f725e"), looks := false }, kinds := [], alts := [], laidByText := true, laidKinds := [.data, .data, .data], laidTests := true, laidLooks := .later }
def TableBackUptoCardSaid : Prop := Claim7.holds Tryd.pinned (.plain (OpenSpec.upto tableBackSpec)) tableBackUptoCard

/-- THE SECOND FORM's CARD OF 'quartermasterlaw09.TableFails'. -/
def tableFailsUptoCard : Claim7 := { stood := { row := tableFailsUptoRow, standIns := [], harness := (true, "3a2edd82f6b554fa950f14e19d77731873fa06be10e845049a2b68acb36f725e"), looks := false }, kinds := [], alts := [], laidByText := true, laidKinds := [.data, .data, .data], laidTests := true, laidLooks := .later }
def TableFailsUptoCardSaid : Prop := Claim7.holds Tryd.pinned (.plain (OpenSpec.upto tableFailsSpec)) tableFailsUptoCard

/-- THE SECOND FORM's CARD OF 'quartermasterlaw09.TableLeaves'. -/
def tableLeavesUptoCard : Claim7 := { stood := { row := tableLeavesUptoRow, standIns := [], harness := (true, "3a2edd82f6b554fa950f14e19d77731873fa06be10e845049a2b68acb36f725e"), looks := false }, kinds := [], alts := [], laidByText := true, laidKinds := [.data, .data, .data], laidTests := true, laidLooks := .later }
def TableLeavesUptoCardSaid : Prop := Claim7.holds Tryd.pinned (.plain (OpenSpec.upto tableLeavesSpec)) tableLeavesUptoCard
end Rows
end Go.Proofs.YtflkoabgkgegjaaDoor
