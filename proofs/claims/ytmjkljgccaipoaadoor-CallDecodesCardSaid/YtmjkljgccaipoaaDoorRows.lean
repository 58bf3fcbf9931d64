/-
  NARROWER THAN 'FOR EVERY INPUT', by the rows' own cells (each row's printed sentence says how): CallWords: laid · CallDecodes: laid · CallBack: laid · CallOnly: laid · CallCuts: laid · CallApart: laid · CallAsks: laid · CallBits: laid.
  DERIVED. THE GIVEN ROWS OF THIS SEAT. 8 by the template 'for every input the law returns true; each argument reads behind the call as it read before'; 0 by the template 'total and deterministic' (their statements: YtmjkljgccaipoaaDoorTotals.lean).
  GIVEN WITH THE SEED: the statements are not yours to turn. If you find one false, say at which input.
  Laid BY PROGRAM, IN A SANDBOX (cutbox-rows.mjs): the forced cells as the released guide's own fill.sh prints them over the translation 7bb8fd4bb5044b68… (all of the seat's roots in one cut). By AI agents, Wed Nov 11 2026. No macro, syntax, notation, axiom, sorry.
-/
import Derived.Test.YtmjkljgccaipoaaDoorChecked
import GoSem.Claim
import GoSem.ClaimJoined
import GoSem.ClaimMapViews
import Derived.JoinedTies
import Derived.KernelRfl
namespace Go.Proofs.YtmjkljgccaipoaaDoor
/- THE CELL 'sum', in the pinned program and in every row, IS THE sha256 OF THE DUMP (.gsa) THAT YtmjkljgccaipoaaDoorProg.lean LOADS. Nothing in Lean hashes anything: it is a label: what it is worth is what the hold of that sum in a sandbox is worth. -/
noncomputable def Tryd.pinned : Pinned := { name := "ytmjkljgccaipoaadoor", sum := "7bb8fd4bb5044b68ba255cd0b983836b6e2af3669c1e6a4a26f296c9aa030fa1", checked := Tryd.checked }
namespace Rows
def none {H : Type} : Left H := { results := [], args := [] }

/- WHAT THE LISTED PACKAGE-LEVEL VARIABLES READ AS WHEN THE CALL BEGINS. Each datum BY PROGRAM (the guide's laid-datum.mjs) off the statement by which the dump's own 'gosem.cut.vars' lays the variable. In a bare row this is a premise. The card (YtmjkljgccaipoaaDoorCards.lean) ties it to the program's text. -/
def laid_quartermaster_calls_table {H : Type} : DataW H := .agg [.agg [.lit (.int .i64 0), .lit (.int .i64 0), .lit (.bool false)], .agg [.lit (.int .i64 1), .lit (.int .i64 1), .lit (.bool true)], .agg [.lit (.int .i64 0), .lit (.int .i64 8), .lit (.bool true)], .agg [.lit (.int .i64 3), .lit (.int .i64 2), .lit (.bool true)], .agg [.lit (.int .i64 3), .lit (.int .i64 2), .lit (.bool true)], .agg [.lit (.int .i64 4), .lit (.int .i64 2), .lit (.bool true)], .agg [.lit (.int .i64 5), .lit (.int .i64 2), .lit (.bool true)], .agg [.lit (.int .i64 5), .lit (.int .i64 2), .lit (.bool true)], .agg [.lit (.int .i64 5), .lit (.int .i64 2), .lit (.bool true)], .agg [.lit (.int .i64 5), .lit (.int .i64 1), .lit (.bool true)], .agg [.lit (.int .i64 4), .lit (.int .i64 1), .lit (.bool true)], .agg [.lit (.int .i64 0), .lit (.int .i64 0), .lit (.bool false)], .agg [.lit (.int .i64 0), .lit (.int .i64 0), .lit (.bool false)], .agg [.lit (.int .i64 0), .lit (.int .i64 0), .lit (.bool false)], .agg [.lit (.int .i64 0), .lit (.int .i64 0), .lit (.bool false)], .agg [.lit (.int .i64 2), .lit (.int .i64 2), .lit (.bool true)], .agg [.lit (.int .i64 0), .lit (.int .i64 0), .lit (.bool true)], .agg [.lit (.int .i64 8), .lit (.int .i64 1), .lit (.bool true)], .agg [.lit (.int .i64 8), .lit (.int .i64 2), .lit (.bool true)]]

/-- 'quartermasterlaw21.CallWords': WHATEVER THE INPUT: true; the input reads as it did. -/
def callWordsSpec : ChangeSpec := { name := "callWords", fn := fun _ => fun
  | [d] => { results := [.lit (.bool true)], args := [d] }
  | _ => none }
def callWordsRow : OpenClaim := { program := "ytmjkljgccaipoaadoor", sum := "7bb8fd4bb5044b68ba255cd0b983836b6e2af3669c1e6a4a26f296c9aa030fa1", func := "quartermaster/quartermasterlaw21.CallWords", spec := "callWords", named := ["quartermaster/calls.table"], apart := false, laid := [("quartermaster/calls.table", laid_quartermaster_calls_table)] }
def CallWordsSaid : Prop := callWordsRow.holds Tryd.pinned (OpenSpec.ofChange callWordsSpec)

/-- ITS FALSE NEIGHBOUR: 'it returns false'. Refute it at one input. -/
def callWordsWrong : ChangeSpec := { name := "callWords", fn := fun _ => fun
  | [d] => { results := [.lit (.bool false)], args := [d] }
  | _ => none }
def CallWordsWrongFalsely : Prop := callWordsRow.holds Tryd.pinned (OpenSpec.ofChange callWordsWrong)

/-- 'quartermasterlaw21.CallDecodes': WHATEVER THE INPUT: true; the input reads as it did. -/
def callDecodesSpec : ChangeSpec := { name := "callDecodes", fn := fun _ => fun
  | [d] => { results := [.lit (.bool true)], args := [d] }
  | _ => none }
def callDecodesRow : OpenClaim := { program := "ytmjkljgccaipoaadoor", sum := "7bb8fd4bb5044b68ba255cd0b983836b6e2af3669c1e6a4a26f296c9aa030fa1", func := "quartermaster/quartermasterlaw21.CallDecodes", spec := "callDecodes", named := ["quartermaster/calls.table"], apart := false, laid := [("quartermaster/calls.table", laid_quartermaster_calls_table)] }
def CallDecodesSaid : Prop := callDecodesRow.holds Tryd.pinned (OpenSpec.ofChange callDecodesSpec)

/-- ITS FALSE NEIGHBOUR: 'it returns false'. Refute it at one input. -/
def callDecodesWrong : ChangeSpec := { name := "callDecodes", fn := fun _ => fun
  | [d] => { results := [.lit (.bool false)], args := [d] }
  | _ => none }
def CallDecodesWrongFalsely : Prop := callDecodesRow.holds Tryd.pinned (OpenSpec.ofChange callDecodesWrong)

/-- 'quartermasterlaw21.CallBack': WHATEVER THE INPUT: true; the input reads as it did. -/
def callBackSpec : ChangeSpec := { name := "callBack", fn := fun _ => fun
  | [d] => { results := [.lit (.bool true)], args := [d] }
  | _ => none }
def callBackRow : OpenClaim := { program := "ytmjkljgccaipoaadoor", sum := "7bb8fd4bb5044b68ba255cd0b983836b6e2af3669c1e6a4a26f296c9aa030fa1", func := "quartermaster/quartermasterlaw21.CallBack", spec := "callBack", named := ["quartermaster/calls.table"], apart := false, laid := [("quartermaster/calls.table", laid_quartermaster_calls_table)] }
def CallBackSaid : Prop := callBackRow.holds Tryd.pinned (OpenSpec.ofChange callBackSpec)

/-- ITS FALSE NEIGHBOUR: 'it returns false'. Refute it at one input. -/
def callBackWrong : ChangeSpec := { name := "callBack", fn := fun _ => fun
  | [d] => { results := [.lit (.bool false)], args := [d] }
  | _ => none }
def CallBackWrongFalsely : Prop := callBackRow.holds Tryd.pinned (OpenSpec.ofChange callBackWrong)

/-- 'quartermasterlaw21.CallOnly': WHATEVER THE INPUT: true; the input reads as it did. -/
def callOnlySpec : ChangeSpec := { name := "callOnly", fn := fun _ => fun
  | [d] => { results := [.lit (.bool true)], args := [d] }
  | _ => none }
def callOnlyRow : OpenClaim := { program := "ytmjkljgccaipoaadoor", sum := "7bb8fd4bb5044b68ba255cd0b983836b6e2af3669c1e6a4a26f296c9aa030fa1", func := "quartermaster/quartermasterlaw21.CallOnly", spec := "callOnly", named := ["quartermaster/calls.table"], apart := false, laid := [("quartermaster/calls.table", laid_quartermaster_calls_table)] }
def CallOnlySaid : Prop := callOnlyRow.holds Tryd.pinned (OpenSpec.ofChange callOnlySpec)

/-- ITS FALSE NEIGHBOUR: 'it returns false'. Refute it at one input. -/
def callOnlyWrong : ChangeSpec := { name := "callOnly", fn := fun _ => fun
  | [d] => { results := [.lit (.bool false)], args := [d] }
  | _ => none }
def CallOnlyWrongFalsely : Prop := callOnlyRow.holds Tryd.pinned (OpenSpec.ofChange callOnlyWrong)

/-- 'quartermasterlaw21.CallCuts': WHATEVER THE INPUT: true; the input reads as it did. -/
def callCutsSpec : ChangeSpec := { name := "callCuts", fn := fun _ => fun
  | [d1, d2, d3] => { results := [.lit (.bool true)], args := [d1, d2, d3] }
  | _ => none }
def callCutsRow : OpenClaim := { program := "ytmjkljgccaipoaadoor", sum := "7bb8fd4bb5044b68ba255cd0b983836b6e2af3669c1e6a4a26f296c9aa030fa1", func := "quartermaster/quartermasterlaw21.CallCuts", spec := "callCuts", named := ["quartermaster/calls.table"], apart := false, laid := [("quartermaster/calls.table", laid_quartermaster_calls_table)] }
def CallCutsSaid : Prop := callCutsRow.holds Tryd.pinned (OpenSpec.ofChange callCutsSpec)

/-- ITS FALSE NEIGHBOUR: 'it returns false'. Refute it at one input. -/
def callCutsWrong : ChangeSpec := { name := "callCuts", fn := fun _ => fun
  | [d1, d2, d3] => { results := [.lit (.bool false)], args := [d1, d2, d3] }
  | _ => none }
def CallCutsWrongFalsely : Prop := callCutsRow.holds Tryd.pinned (OpenSpec.ofChange callCutsWrong)

/-- 'quartermasterlaw21.CallApart': WHATEVER THE INPUT: true; the input reads as it did. -/
def callApartSpec : ChangeSpec := { name := "callApart", fn := fun _ => fun
  | [d1, d2] => { results := [.lit (.bool true)], args := [d1, d2] }
  | _ => none }
def callApartRow : OpenClaim := { program := "ytmjkljgccaipoaadoor", sum := "7bb8fd4bb5044b68ba255cd0b983836b6e2af3669c1e6a4a26f296c9aa030fa1", func := "quartermaster/quartermasterlaw21.CallApart", spec := "callApart", named := ["quartermaster/calls.table"], apart := false, laid := [("quartermaster/calls.table", laid_quartermaster_calls_table)] }
def CallApartSaid : Prop := callApartRow.holds Tryd.pinned (OpenSpec.ofChange callApartSpec)

/-- ITS FALSE NEIGHBOUR: 'it returns false'. Refute it at one input. -/
def callApartWrong : ChangeSpec := { name := "callApart", fn := fun _ => fun
  | [d1, d2] => { results := [.lit (.bool false)], args := [d1, d2] }
  | _ => none }
def CallApartWrongFalsely : Prop := callApartRow.holds Tryd.pinned (OpenSpec.ofChange callApartWrong)

/-- 'quartermasterlaw21.CallAsks': WHATEVER THE INPUT: true; the input reads as it did. -/
def callAsksSpec : ChangeSpec := { name := "callAsks", fn := fun _ => fun
  | [d] => { results := [.lit (.bool true)], args := [d] }
  | _ => none }
def callAsksRow : OpenClaim := { program := "ytmjkljgccaipoaadoor", sum := "7bb8fd4bb5044b68ba255cd0b983836b6e2af3669c1e6a4a26f296c9aa030fa1", func := "quartermaster/quartermasterlaw21.CallAsks", spec := "callAsks", named := ["quartermaster/calls.table"], apart := false, laid := [("quartermaster/calls.table", laid_quartermaster_calls_table)] }
def CallAsksSaid : Prop := callAsksRow.holds Tryd.pinned (OpenSpec.ofChange callAsksSpec)

/-- ITS FALSE NEIGHBOUR: 'it returns false'. Refute it at one input. -/
def callAsksWrong : ChangeSpec := { name := "callAsks", fn := fun _ => fun
  | [d] => { results := [.lit (.bool false)], args := [d] }
  | _ => none }
def CallAsksWrongFalsely : Prop := callAsksRow.holds Tryd.pinned (OpenSpec.ofChange callAsksWrong)

/-- 'quartermasterlaw21.CallBits': WHATEVER THE INPUT: true; the input reads as it did. -/
def callBitsSpec : ChangeSpec := { name := "callBits", fn := fun _ => fun
  | [d1, d2] => { results := [.lit (.bool true)], args := [d1, d2] }
  | _ => none }
def callBitsRow : OpenClaim := { program := "ytmjkljgccaipoaadoor", sum := "7bb8fd4bb5044b68ba255cd0b983836b6e2af3669c1e6a4a26f296c9aa030fa1", func := "quartermaster/quartermasterlaw21.CallBits", spec := "callBits", named := ["quartermaster/calls.table"], apart := false, laid := [("quartermaster/calls.table", laid_quartermaster_calls_table)] }
def CallBitsSaid : Prop := callBitsRow.holds Tryd.pinned (OpenSpec.ofChange callBitsSpec)

/-- ITS FALSE NEIGHBOUR: 'it returns false'. Refute it at one input. -/
def callBitsWrong : ChangeSpec := { name := "callBits", fn := fun _ => fun
  | [d1, d2] => { results := [.lit (.bool false)], args := [d1, d2] }
  | _ => none }
def CallBitsWrongFalsely : Prop := callBitsRow.holds Tryd.pinned (OpenSpec.ofChange callBitsWrong)

/- THE SECOND FORM. 'bulk': how many values and letters a reading holds, each counted each time it is reached (what is shared counts as often as it is met; a slice's spare places count too). A statement '..UptoSaid' is the law's where the arguments, and the package variables that the reading takes, are together of bulk at most 1048576: NARROWER than '..Said'. Prove '..Said' where nothing that the law and all that it calls make is longer than what came in: it says more and counts as full. Else prove '..UptoSaid'. A law counts once. -/
mutual
def uptoBulk {H : Type} : DataW H → Nat
  | .lit (.string bytes) => bytes.length + 1
  | .lit _ => 1
  | .nil => 1
  | .ptr d => uptoBulk d + 1
  | .slice elems spare => uptoBulkAll elems + uptoBulkAll spare + 1
  | .agg parts => uptoBulkAll parts + 1
  | .iface _ d => uptoBulk d + 1
  | .map entries => uptoBulkEntries entries + 1
  | .held _ => 1
def uptoBulkAll {H : Type} : List (DataW H) → Nat
  | [] => 0
  | d :: r => uptoBulk d + uptoBulkAll r
def uptoBulkEntries {H : Type} : List (Lit × DataW H) → Nat
  | [] => 0
  | x :: r => uptoBulkEntry x + uptoBulkEntries r
def uptoBulkEntry {H : Type} : Lit × DataW H → Nat
  | (.string bytes, d) => bytes.length + uptoBulk d + 1
  | (_, d) => uptoBulk d + 1
 end
def uptoSmall : (H : Type) → List (DataW H) → Bool := fun _ ds => decide (uptoBulkAll ds ≤ 1048576)
def OpenSpec.upto (s : _root_.Go.ChangeSpec) : _root_.Go.OpenSpec := { _root_.Go.OpenSpec.ofChange s with cond := some uptoSmall }

/-- 'quartermasterlaw21.CallWords', WHERE WHAT IT READS IS OF BULK AT MOST 1048576: true; the input reads as it did. -/
def callWordsUptoRow : OpenClaim := { program := "ytmjkljgccaipoaadoor", sum := "7bb8fd4bb5044b68ba255cd0b983836b6e2af3669c1e6a4a26f296c9aa030fa1", func := "quartermaster/quartermasterlaw21.CallWords", spec := "callWords", named := ["quartermaster/calls.table"], apart := false, laid := [("quartermaster/calls.table", laid_quartermaster_calls_table)], narrowed := true }
def CallWordsUptoSaid : Prop := callWordsUptoRow.holds Tryd.pinned (OpenSpec.upto callWordsSpec)

/-- 'quartermasterlaw21.CallDecodes', WHERE WHAT IT READS IS OF BULK AT MOST 1048576: true; the input reads as it did. -/
def callDecodesUptoRow : OpenClaim := { program := "ytmjkljgccaipoaadoor", sum := "7bb8fd4bb5044b68ba255cd0b983836b6e2af3669c1e6a4a26f296c9aa030fa1", func := "quartermaster/quartermasterlaw21.CallDecodes", spec := "callDecodes", named := ["quartermaster/calls.table"], apart := false, laid := [("quartermaster/calls.table", laid_quartermaster_calls_table)], narrowed := true }
def CallDecodesUptoSaid : Prop := callDecodesUptoRow.holds Tryd.pinned (OpenSpec.upto callDecodesSpec)

/-- 'quartermasterlaw21.CallBack', WHERE WHAT IT READS IS OF BULK AT MOST 1048576: true; the input reads as it did. -/
def callBackUptoRow : OpenClaim := { program := "ytmjkljgccaipoaadoor", sum := "7bb8fd4bb5044b68ba255cd0b983836b6e2af3669c1e6a4a26f296c9aa030fa1", func := "quartermaster/quartermasterlaw21.CallBack", spec := "callBack", named := ["quartermaster/calls.table"], apart := false, laid := [("quartermaster/calls.table", laid_quartermaster_calls_table)], narrowed := true }
def CallBackUptoSaid : Prop := callBackUptoRow.holds Tryd.pinned (OpenSpec.upto callBackSpec)

/-- 'quartermasterlaw21.CallOnly', WHERE WHAT IT READS IS OF BULK AT MOST 1048576: true; the input reads as it did. -/
def callOnlyUptoRow : OpenClaim := { program := "ytmjkljgccaipoaadoor", sum := "7bb8fd4bb5044b68ba255cd0b983836b6e2af3669c1e6a4a26f296c9aa030fa1", func := "quartermaster/quartermasterlaw21.CallOnly", spec := "callOnly", named := ["quartermaster/calls.table"], apart := false, laid := [("quartermaster/calls.table", laid_quartermaster_calls_table)], narrowed := true }
def CallOnlyUptoSaid : Prop := callOnlyUptoRow.holds Tryd.pinned (OpenSpec.upto callOnlySpec)

/-- 'quartermasterlaw21.CallCuts', WHERE WHAT IT READS IS OF BULK AT MOST 1048576: true; the input reads as it did. -/
def callCutsUptoRow : OpenClaim := { program := "ytmjkljgccaipoaadoor", sum := "7bb8fd4bb5044b68ba255cd0b983836b6e2af3669c1e6a4a26f296c9aa030fa1", func := "quartermaster/quartermasterlaw21.CallCuts", spec := "callCuts", named := ["quartermaster/calls.table"], apart := false, laid := [("quartermaster/calls.table", laid_quartermaster_calls_table)], narrowed := true }
def CallCutsUptoSaid : Prop := callCutsUptoRow.holds Tryd.pinned (OpenSpec.upto callCutsSpec)

/-- 'quartermasterlaw21.CallApart', WHERE WHAT IT READS IS OF BULK AT MOST 1048576: true; the input reads as it did. -/
def callApartUptoRow : OpenClaim := { program := "ytmjkljgccaipoaadoor", sum := "7bb8fd4bb5044b68ba255cd0b983836b6e2af3669c1e6a4a26f296c9aa030fa1", func := "quartermaster/quartermasterlaw21.CallApart", spec := "callApart", named := ["quartermaster/calls.table"], apart := false, laid := [("quartermaster/calls.table", laid_quartermaster_calls_table)], narrowed := true }
def CallApartUptoSaid : Prop := callApartUptoRow.holds Tryd.pinned (OpenSpec.upto callApartSpec)

/-- 'quartermasterlaw21.CallAsks', WHERE WHAT IT READS IS OF BULK AT MOST 1048576: true; the input reads as it did. -/
def callAsksUptoRow : OpenClaim := { program := "ytmjkljgccaipoaadoor", sum := "7bb8fd4bb5044b68ba255cd0b983836b6e2af3669c1e6a4a26f296c9aa030fa1", func := "quartermaster/quartermasterlaw21.CallAsks", spec := "callAsks", named := ["quartermaster/calls.table"], apart := false, laid := [("quartermaster/calls.table", laid_quartermaster_calls_table)], narrowed := true }
def CallAsksUptoSaid : Prop := callAsksUptoRow.holds Tryd.pinned (OpenSpec.upto callAsksSpec)

/-- 'quartermasterlaw21.CallBits', WHERE WHAT IT READS IS OF BULK AT MOST 1048576: true; the input reads as it did. -/
def callBitsUptoRow : OpenClaim := { program := "ytmjkljgccaipoaadoor", sum := "7bb8fd4bb5044b68ba255cd0b983836b6e2af3669c1e6a4a26f296c9aa030fa1", func := "quartermaster/quartermasterlaw21.CallBits", spec := "callBits", named := ["quartermaster/calls.table"], apart := false, laid := [("quartermaster/calls.table", laid_quartermaster_calls_table)], narrowed := true }
def CallBitsUptoSaid : Prop := callBitsUptoRow.holds Tryd.pinned (OpenSpec.upto callBitsSpec)

end Rows
end Go.Proofs.YtmjkljgccaipoaaDoor
