/-
  DERIVED. GIVEN WITH THE SEED: THE CARDS: each row of YtmjkljgccaipoaaDoorRows.lean that lists a variable, with what it lists TIED to the program's text (the seventh form; the later family's looks); each row that meets fmt, with fmt's text TOLD by the authors' own Lean function (tested against real Go, not proved from fmt's source: count such statements apart). THE CARD IS WHAT COUNTS. Prove the row's statement (the work); the ties are given (YtmjkljgccaipoaaDoorTie.lean); close each card by the builder's one call (the guide's Derived/Test/ToyasCard.lean, 'card_holds'). Laid BY PROGRAM, IN A SANDBOX (cutbox-door.mjs). By AI agents, Wed Nov 11 2026. No macro, syntax, notation, axiom, sorry.
-/
import Derived.Test.YtmjkljgccaipoaaDoorRows
import GoSem.ClaimSeven
namespace Go.Proofs.YtmjkljgccaipoaaDoor
namespace Rows

/-- THE TIED CARD OF 'quartermasterlaw21.CallWords'. -/
def callWordsCard : Claim7 := { stood := { row := callWordsRow, standIns := [], harness := (true, "487732ac1ddc50989d05407e38fb58482c8a7850e14ad876bf7a44c49f6506f8"), looks := false }, kinds := [], alts := [], laidByText := true, laidKinds := [.data], laidTests := true, laidLooks := .later }
def CallWordsCardSaid : Prop := Claim7.holds Tryd.pinned (.plain (OpenSpec.ofChange callWordsSpec)) callWordsCard

/-- THE TIED CARD OF 'quartermasterlaw21.CallDecodes'. -/
def callDecodesCard : Claim7 := { stood := { row := callDecodesRow, standIns := [], harness := (true, "487732ac1ddc50989d05407e38fb58482c8a7850e14ad876bf7a44c49f6506f8"), looks := false }, kinds := [], alts := [], laidByText := true, laidKinds := [.data], laidTests := true, laidLooks := .later }
def CallDecodesCardSaid : Prop := Claim7.holds Tryd.pinned (.plain (OpenSpec.ofChange callDecodesSpec)) callDecodesCard

/-- THE TIED CARD OF 'quartermasterlaw21.CallBack'. -/
def callBackCard : Claim7 := { stood := { row := callBackRow, standIns := [], harness := (true, "487732ac1ddc50989d05407e38fb58482c8a7850e14ad876bf7a44c49f6506f8"), looks := false }, kinds := [], alts := [], laidByText := true, laidKinds := [.data], laidTests := true, laidLooks := .later }
def CallBackCardSaid : Prop := Claim7.holds Tryd.pinned (.plain (OpenSpec.ofChange callBackSpec)) callBackCard

/-- THE TIED CARD OF 'quartermasterlaw21.CallOnly'. -/
def callOnlyCard : Claim7 := { stood := { row := callOnlyRow, standIns := [], harness := (true, "487732ac1ddc50989d05407e38fb58482c8a7850e14ad876bf7a44c49f6506f8"), looks := false }, kinds := [], alts := [], laidByText := true, laidKinds := [.data], laidTests := true, laidLooks := .later }
def CallOnlyCardSaid : Prop := Claim7.holds Tryd.pinned (.plain (OpenSpec.ofChange callOnlySpec)) callOnlyCard

/-- THE TIED CARD OF 'quartermasterlaw21.CallCuts'. -/
def callCutsCard : Claim7 := { stood := { row := callCutsRow, standIns := [], harness := (true, "487732ac1ddc50989d05407e38fb58482c8a7850e14ad876bf7a44c49f6506f8"), looks := false }, kinds := [], alts := [], laidByText := true, laidKinds := [.data], laidTests := true, laidLooks := .later }
def CallCutsCardSaid : Prop := Claim7.holds Tryd.pinned (.plain (OpenSpec.ofChange callCutsSpec)) callCutsCard

/-- THE TIED CARD OF 'quartermasterlaw21.CallApart'. -/
def callApartCard : Claim7 := { stood := { row := callApartRow, standIns := [], harness := (true, "487732ac1ddc50989d05407e38fb58482c8a7850e14ad876bf7a44c49f6506f8"), looks := false }, kinds := [], alts := [], laidByText := true, laidKinds := [.data], laidTests := true, laidLooks := .later }
def CallApartCardSaid : Prop := Claim7.holds Tryd.pinned (.plain (OpenSpec.ofChange callApartSpec)) callApartCard

/-- THE TIED CARD OF 'quartermasterlaw21.CallAsks'. -/
def callAsksCard : Claim7 := { stood := { row := callAsksRow, standIns := [], harness := (true, "487732ac1ddc50989d05407e38fb58482c8a7850e14ad876bf7a44c49f6506f8"), looks := false }, kinds := [], alts := [], laidByText := true, laidKinds := [.data], laidTests := true, laidLooks := .later }
def CallAsksCardSaid : Prop := Claim7.holds Tryd.pinned (.plain (OpenSpec.ofChange callAsksSpec)) callAsksCard

/-- THE TIED CARD OF 'quartermasterlaw21.CallBits'. -/
def callBitsCard : Claim7 := { stood := { row := callBitsRow, standIns := [], harness := (true, "487732ac1ddc50989d05407e38fb58482c8a7850e14ad876bf7a44c49f6506f8"), looks := false }, kinds := [], alts := [], laidByText := true, laidKinds := [.data], laidTests := true, laidLooks := .later }
def CallBitsCardSaid : Prop := Claim7.holds Tryd.pinned (.plain (OpenSpec.ofChange callBitsSpec)) callBitsCard

/-- THE SECOND FORM's CARD OF 'quartermasterlaw21.CallWords'. -/
def callWordsUptoCard : Claim7 := { stood := { row := callWordsUptoRow, standIns := [], harness := (true, "487732ac1ddc50989d05407e38fb58482c8a7850e14ad876bf7a44c49f6506f8"), looks := false }, kinds := [], alts := [], laidByText := true, laidKinds := [.data], laidTests := true, laidLooks := .later }
def CallWordsUptoCardSaid : Prop := Claim7.holds Tryd.pinned (.plain (OpenSpec.upto callWordsSpec)) callWordsUptoCard

/-- THE SECOND FORM's CARD OF 'quartermasterlaw21.CallDecodes'. -/
def callDecodesUptoCard : Claim7 := { stood := { row := callDecodesUptoRow, standIns := [], harness := (true, "487732ac1ddc50989d05407e38fb58482c8a7850e14ad876bf7a44c49f6506f8"), looks := false }, kinds := [], alts := [], laidByText := true, laidKinds := [.data], laidTests := true, laidLooks := .later }
def CallDecodesUptoCardSaid : Prop := Claim7.holds Tryd.pinned (.plain (OpenSpec.upto callDecodesSpec)) callDecodesUptoCard

/-- THE SECOND FORM's CARD OF 'quartermasterlaw21.CallBack'. -/
def callBackUptoCard : Claim7 := { stood := { row := callBackUptoRow, standIns := [], harness := (true, "487732ac1ddc50989d05407e38fb58482c8a7850e14ad876bf7a44c49f6506f8"), looks := false }, kinds := [], alts := [], laidByText := true, laidKinds := [.data], laidTests := true, laidLooks := .later }
def CallBackUptoCardSaid : Prop := Claim7.holds Tryd.pinned (.plain (OpenSpec.upto callBackSpec)) callBackUptoCard

/-- THE SECOND FORM's CARD OF 'quartermasterlaw21.CallOnly'. -/
def callOnlyUptoCard : Claim7 := { stood := { row := callOnlyUptoRow, standIns := [], harness := (true, "487732ac1ddc50989d05407e38fb58482c8a7850e14ad876bf7a44c49f6506f8"), looks := false }, kinds := [], alts := [], laidByText := true, laidKinds := [.data], laidTests := true, laidLooks := .later }
def CallOnlyUptoCardSaid : Prop := Claim7.holds Tryd.pinned (.plain (OpenSpec.upto callOnlySpec)) callOnlyUptoCard

/-- THE SECOND FORM's CARD OF 'quartermasterlaw21.CallCuts'. -/
def callCutsUptoCard : Claim7 := { stood := { row := callCutsUptoRow, standIns := [], harness := (true, "487732ac1ddc50989d05407e38fb58482c8a7850e14ad876bf7a44c49f6506f8"), looks := false }, kinds := [], alts := [], laidByText := true, laidKinds := [.data], laidTests := true, laidLooks := .later }
def CallCutsUptoCardSaid : Prop := Claim7.holds Tryd.pinned (.plain (OpenSpec.upto callCutsSpec)) callCutsUptoCard

/-- THE SECOND FORM's CARD OF 'quartermasterlaw21.CallApart'. -/
def callApartUptoCard : Claim7 := { stood := { row := callApartUptoRow, standIns := [], harness := (true, "487732ac1ddc50989d05407e38fb58482c8a7850e14ad876bf7a44c49f6506f8"), looks := false }, kinds := [], alts := [], laidByText := true, laidKinds := [.data], laidTests := true, laidLooks := .later }
def CallApartUptoCardSaid : Prop := Claim7.holds Tryd.pinned (.plain (OpenSpec.upto callApartSpec)) callApartUptoCard

/-- THE SECOND FORM's CARD OF 'quartermasterlaw21.CallAsks'. -/
def callAsksUptoCard : Claim7 := { stood := { row := callAsksUptoRow, standIns := [], harness := (true, "487732ac1ddc50989d05407e38fb58482c8a7850e14ad876bf7a44c49f6506f8"), looks := false }, kinds := [], alts := [], laidByText := true, laidKinds := [.data], laidTests := true, laidLooks := .later }
def CallAsksUptoCardSaid : Prop := Claim7.holds Tryd.pinned (.plain (OpenSpec.upto callAsksSpec)) callAsksUptoCard

/-- THE SECOND FORM's CARD OF 'quartermasterlaw21.CallBits'. -/
def callBitsUptoCard : Claim7 := { stood := { row := callBitsUptoRow, standIns := [], harness := (true, "487732ac1ddc50989d05407e38fb58482c8a7850e14ad876bf7a44c49f6506f8"), looks := false }, kinds := [], alts := [], laidByText := true, laidKinds := [.data], laidTests := true, laidLooks := .later }
def CallBitsUptoCardSaid : Prop := Claim7.holds Tryd.pinned (.plain (OpenSpec.upto callBitsSpec)) callBitsUptoCard
end Rows
end Go.Proofs.YtmjkljgccaipoaaDoor
