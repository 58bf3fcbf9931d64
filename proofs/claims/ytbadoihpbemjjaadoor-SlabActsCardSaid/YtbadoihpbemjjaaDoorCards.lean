/-
  DERIVED. GIVEN WITH THE SEED: THE CARDS: each row of YtbadoihpbemjjaaDoorRows.lean that lists a variable, with what it lists TIED to the program's text (the seventh form; the later family's looks); each row that meets fmt, with fmt's text TOLD by the authors' own Lean function (tested against real Go, not proved from fmt's source: count such statements apart). THE CARD IS WHAT COUNTS. Prove the row's statement (the work); the ties are given (YtbadoihpbemjjaaDoorTie.lean); close each card by the builder's one call (the guide's Derived/Test/ToyasCard.lean, 'card_holds'). Laid BY PROGRAM, IN A SANDBOX (cutbox-door.mjs). By AI agents, Wed Nov 11 2026. No macro, syntax, notation, axiom, sorry.
-/
import Derived.Test.YtbadoihpbemjjaaDoorRows
import GoSem.ClaimSeven
namespace Go.Proofs.YtbadoihpbemjjaaDoor
namespace Rows

/-- THE TIED CARD OF 'quartermasterlaw04.SlabBack'. -/
def slabBackCard : Claim7 := { stood := { row := slabBackRow, standIns := [], harness := (true, "1474dace52a345b86de4bb0cc1cc826849d909b2610fa6bdcb75235305c5ac64"), looks := false }, kinds := [], alts := [], laidByText := true, laidKinds := [.data, .data], laidTests := true, laidLooks := .later }
def SlabBackCardSaid : Prop := Claim7.holds Tryd.pinned (.plain (OpenSpec.ofChange slabBackSpec)) slabBackCard

/-- THE TIED CARD OF 'quartermasterlaw04.SlabActs'. -/
def slabActsCard : Claim7 := { stood := { row := slabActsRow, standIns := [], harness := (true, "1474dace52a345b86de4bb0cc1cc826849d909b2610fa6bdcb75235305c5ac64"), looks := false }, kinds := [], alts := [], laidByText := true, laidKinds := [.data, .data], laidTests := true, laidLooks := .later }
def SlabActsCardSaid : Prop := Claim7.holds Tryd.pinned (.plain (OpenSpec.ofChange slabActsSpec)) slabActsCard

/-- THE TIED CARD OF 'quartermasterlaw04.SlabFills'. -/
def slabFillsCard : Claim7 := { stood := { row := slabFillsRow, standIns := [], harness := (true, "1474dace52a345b86de4bb0cc1cc826849d909b2610fa6bdcb75235305c5ac64"), looks := false }, kinds := [], alts := [], laidByText := true, laidKinds := [.data, .data], laidTests := true, laidLooks := .later }
def SlabFillsCardSaid : Prop := Claim7.holds Tryd.pinned (.plain (OpenSpec.ofChange slabFillsSpec)) slabFillsCard

/-- THE TIED CARD OF 'quartermasterlaw04.SlabApart'. -/
def slabApartCard : Claim7 := { stood := { row := slabApartRow, standIns := [], harness := (true, "1474dace52a345b86de4bb0cc1cc826849d909b2610fa6bdcb75235305c5ac64"), looks := false }, kinds := [], alts := [], laidByText := true, laidKinds := [.data, .data], laidTests := true, laidLooks := .later }
def SlabApartCardSaid : Prop := Claim7.holds Tryd.pinned (.plain (OpenSpec.ofChange slabApartSpec)) slabApartCard

/-- THE SECOND FORM's CARD OF 'quartermasterlaw04.SlabBack'. -/
def slabBackUptoCard : Claim7 := { stood := { row := slabBackUptoRow, standIns := [], harness := (true, "1474dace52a345b86de4bb0cc1cc826849d909b2610fa6bdcb75235305c5ac64"), looks := false }, kinds := [], alts := [], laidByText := true, laidKinds := [.data, .data], laidTests := true, laidLooks := .later }
def SlabBackUptoCardSaid : Prop := Claim7.holds Tryd.pinned (.plain (OpenSpec.upto slabBackSpec)) slabBackUptoCard

/-- THE SECOND FORM's CARD OF 'quartermasterlaw04.SlabActs'. -/
def slabActsUptoCard : Claim7 := { stood := { row := slabActsUptoRow, standIns := [], harness := (true, "1474dace52a345b86de4bb0cc1cc826849d909b2610fa6bdcb75235305c5ac64"), looks := false }, kinds := [], alts := [], laidByText := true, laidKinds := [.data, .data], laidTests := true, laidLooks := .later }
def SlabActsUptoCardSaid : Prop := Claim7.holds Tryd.pinned (.plain (OpenSpec.upto slabActsSpec)) slabActsUptoCard

/-- THE SECOND FORM's CARD OF 'quartermasterlaw04.SlabFills'. -/
def slabFillsUptoCard : Claim7 := { stood := { row := slabFillsUptoRow, standIns := [], harness := (true, "1474dace52a345b86de4bb0cc1cc826849d909b2610fa6bdcb75235305c5ac64"), looks := false }, kinds := [], alts := [], laidByText := true, laidKinds := [.data, .data], laidTests := true, laidLooks := .later }
def SlabFillsUptoCardSaid : Prop := Claim7.holds Tryd.pinned (.plain (OpenSpec.upto slabFillsSpec)) slabFillsUptoCard

/-- THE SECOND FORM's CARD OF 'quartermasterlaw04.SlabApart'. -/
def slabApartUptoCard : Claim7 := { stood := { row := slabApartUptoRow, standIns := [], harness := (true, "1474dace52a345b86de4bb0cc1cc826849d909b2610fa6bdcb75235305c5ac64"), looks := false }, kinds := [], alts := [], laidByText := true, laidKinds := [.data, .data], laidTests := true, laidLooks := .later }
def SlabApartUptoCardSaid : Prop := Claim7.holds Tryd.pinned (.plain (OpenSpec.upto slabApartSpec)) slabApartUptoCard
end Rows
end Go.Proofs.YtbadoihpbemjjaaDoor
