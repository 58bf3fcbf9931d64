/-
  DERIVED. GIVEN WITH THE SEED: THE CARDS: each row of YtjlgkefklklphaaDoorRows.lean that lists a variable, with what it lists TIED to the program's text (the seventh form; the later family's looks); each row that meets fmt, with fmt's text TOLD by the authors' own Lean function (tested against real Go, not proved from fmt's source: count such statements apart). THE CARD IS WHAT COUNTS. Prove the row's statement (the work); the ties are given (YtjlgkefklklphaaDoorTie.lean); close each card by the builder's one call (the guide's Derived/Test/ToyasCard.lean, 'card_holds'). Laid BY PROGRAM, IN A SANDBOX (cutbox-door.mjs). By AI agents, Wed Nov 11 2026. No macro, syntax, notation, axiom, sorry.
-/
import Derived.Test.YtjlgkefklklphaaDoorRows
import GoSem.ClaimSeven
namespace Go.Proofs.YtjlgkefklklphaaDoor
namespace Rows

/-- THE TIED CARD OF 'quartermasterlaw02.MapCount'. -/
def mapCountCard : Claim7 := { stood := { row := mapCountRow, standIns := [], harness := (true, "5938042252be4b40df4cf4dcdda74311954b3f7b19e4b95f7855a154d5a0bda3"), looks := false }, kinds := [], alts := [], laidByText := true, laidKinds := [.data], laidTests := true, laidLooks := .later }
def MapCountCardSaid : Prop := Claim7.holds Tryd.pinned (.plain (OpenSpec.ofChange mapCountSpec)) mapCountCard

/-- THE TIED CARD OF 'quartermasterlaw02.MapFirst'. -/
def mapFirstCard : Claim7 := { stood := { row := mapFirstRow, standIns := [], harness := (true, "5938042252be4b40df4cf4dcdda74311954b3f7b19e4b95f7855a154d5a0bda3"), looks := false }, kinds := [], alts := [], laidByText := true, laidKinds := [.data], laidTests := true, laidLooks := .later }
def MapFirstCardSaid : Prop := Claim7.holds Tryd.pinned (.plain (OpenSpec.ofChange mapFirstSpec)) mapFirstCard

/-- THE TIED CARD OF 'quartermasterlaw02.MapOrder'. -/
def mapOrderCard : Claim7 := { stood := { row := mapOrderRow, standIns := [], harness := (true, "5938042252be4b40df4cf4dcdda74311954b3f7b19e4b95f7855a154d5a0bda3"), looks := false }, kinds := [], alts := [], laidByText := true, laidKinds := [.data], laidTests := true, laidLooks := .later }
def MapOrderCardSaid : Prop := Claim7.holds Tryd.pinned (.plain (OpenSpec.ofChange mapOrderSpec)) mapOrderCard

/-- THE SECOND FORM's CARD OF 'quartermasterlaw02.MapCount'. -/
def mapCountUptoCard : Claim7 := { stood := { row := mapCountUptoRow, standIns := [], harness := (true, "5938042252be4b40df4cf4dcdda74311954b3f7b19e4b95f7855a154d5a0bda3"), looks := false }, kinds := [], alts := [], laidByText := true, laidKinds := [.data], laidTests := true, laidLooks := .later }
def MapCountUptoCardSaid : Prop := Claim7.holds Tryd.pinned (.plain (OpenSpec.upto mapCountSpec)) mapCountUptoCard

/-- THE SECOND FORM's CARD OF 'quartermasterlaw02.MapFirst'. -/
def mapFirstUptoCard : Claim7 := { stood := { row := mapFirstUptoRow, standIns := [], harness := (true, "5938042252be4b40df4cf4dcdda74311954b3f7b19e4b95f7855a154d5a0bda3"), looks := false }, kinds := [], alts := [], laidByText := true, laidKinds := [.data], laidTests := true, laidLooks := .later }
def MapFirstUptoCardSaid : Prop := Claim7.holds Tryd.pinned (.plain (OpenSpec.upto mapFirstSpec)) mapFirstUptoCard

/-- THE SECOND FORM's CARD OF 'quartermasterlaw02.MapOrder'. -/
def mapOrderUptoCard : Claim7 := { stood := { row := mapOrderUptoRow, standIns := [], harness := (true, "5938042252be4b40df4cf4dcdda74311954b3f7b19e4b95f7855a154d5a0bda3"), looks := false }, kinds := [], alts := [], laidByText := true, laidKinds := [.data], laidTests := true, laidLooks := .later }
def MapOrderUptoCardSaid : Prop := Claim7.holds Tryd.pinned (.plain (OpenSpec.upto mapOrderSpec)) mapOrderUptoCard
end Rows
end Go.Proofs.YtjlgkefklklphaaDoor
