/-
  No cell of these rows narrows 'for every input' (looked for: loops, veiled, ifaces, maps, wideKeys, modest, calm, conditions, laid).
  DERIVED. THE GIVEN ROWS OF THIS SEAT. 7 by the template 'for every input the law returns true; each argument reads behind the call as it read before'; 0 by the template 'total and deterministic' (their statements: YtgacfgofpanchaaTotals.lean).
  GIVEN WITH THE SEED: the statements are not yours to turn. If you find one false, say at which input.
  Laid BY PROGRAM, IN A SANDBOX (cutbox-rows.mjs): the forced cells as the released guide's own fill.sh prints them over the translation d6bc188809491848… (all of the seat's roots in one cut). By AI agents, Wed Nov 11 2026. No macro, syntax, notation, axiom, sorry.
-/
import Derived.Test.YtgacfgofpanchaaChecked
import GoSem.Claim
import GoSem.ClaimJoined
import GoSem.ClaimMapViews
import Derived.JoinedTies
import Derived.KernelRfl
namespace Go.Proofs.Ytgacfgofpanchaa
/- THE CELL 'sum', in the pinned program and in every row, IS THE sha256 OF THE DUMP (.gsa) THAT YtgacfgofpanchaaProg.lean LOADS. Nothing in Lean hashes anything: it is a label: what it is worth is what the hold of that sum in a sandbox is worth. -/
noncomputable def Try.pinned : Pinned := { name := "ytgacfgofpanchaa", sum := "d6bc1888094918486b7de3deb5431b339d9c7f150f5bc3a0d833f037b3323491", checked := Try.checked }
namespace Rows
def none {H : Type} : Left H := { results := [], args := [] }

/-- 'quartermasterlaw14.UtcbItems': WHATEVER THE INPUT: true; the input reads as it did. -/
def utcbItemsSpec : ChangeSpec := { name := "utcbItems", fn := fun _ => fun
  | [d1, d2, d3] => { results := [.lit (.bool true)], args := [d1, d2, d3] }
  | _ => none }
def utcbItemsRow : OpenClaim := { program := "ytgacfgofpanchaa", sum := "d6bc1888094918486b7de3deb5431b339d9c7f150f5bc3a0d833f037b3323491", func := "quartermaster/quartermasterlaw14.UtcbItems", spec := "utcbItems", apart := false }
def UtcbItemsSaid : Prop := utcbItemsRow.holds Try.pinned (OpenSpec.ofChange utcbItemsSpec)

/-- ITS FALSE NEIGHBOUR: 'it returns false'. Refute it at one input. -/
def utcbItemsWrong : ChangeSpec := { name := "utcbItems", fn := fun _ => fun
  | [d1, d2, d3] => { results := [.lit (.bool false)], args := [d1, d2, d3] }
  | _ => none }
def UtcbItemsWrongFalsely : Prop := utcbItemsRow.holds Try.pinned (OpenSpec.ofChange utcbItemsWrong)

/-- 'quartermasterlaw14.UtcbItemBack': WHATEVER THE INPUT: true; the input reads as it did. -/
def utcbItemBackSpec : ChangeSpec := { name := "utcbItemBack", fn := fun _ => fun
  | [d1, d2, d3] => { results := [.lit (.bool true)], args := [d1, d2, d3] }
  | _ => none }
def utcbItemBackRow : OpenClaim := { program := "ytgacfgofpanchaa", sum := "d6bc1888094918486b7de3deb5431b339d9c7f150f5bc3a0d833f037b3323491", func := "quartermaster/quartermasterlaw14.UtcbItemBack", spec := "utcbItemBack", apart := false }
def UtcbItemBackSaid : Prop := utcbItemBackRow.holds Try.pinned (OpenSpec.ofChange utcbItemBackSpec)

/-- ITS FALSE NEIGHBOUR: 'it returns false'. Refute it at one input. -/
def utcbItemBackWrong : ChangeSpec := { name := "utcbItemBack", fn := fun _ => fun
  | [d1, d2, d3] => { results := [.lit (.bool false)], args := [d1, d2, d3] }
  | _ => none }
def UtcbItemBackWrongFalsely : Prop := utcbItemBackRow.holds Try.pinned (OpenSpec.ofChange utcbItemBackWrong)

/-- 'quartermasterlaw14.UtcbActs': WHATEVER THE INPUT: true; the input reads as it did. -/
def utcbActsSpec : ChangeSpec := { name := "utcbActs", fn := fun _ => fun
  | [d] => { results := [.lit (.bool true)], args := [d] }
  | _ => none }
def utcbActsRow : OpenClaim := { program := "ytgacfgofpanchaa", sum := "d6bc1888094918486b7de3deb5431b339d9c7f150f5bc3a0d833f037b3323491", func := "quartermaster/quartermasterlaw14.UtcbActs", spec := "utcbActs", apart := false }
def UtcbActsSaid : Prop := utcbActsRow.holds Try.pinned (OpenSpec.ofChange utcbActsSpec)

/-- ITS FALSE NEIGHBOUR: 'it returns false'. Refute it at one input. -/
def utcbActsWrong : ChangeSpec := { name := "utcbActs", fn := fun _ => fun
  | [d] => { results := [.lit (.bool false)], args := [d] }
  | _ => none }
def UtcbActsWrongFalsely : Prop := utcbActsRow.holds Try.pinned (OpenSpec.ofChange utcbActsWrong)

/-- 'quartermasterlaw14.UtcbTells': WHATEVER THE INPUT: true; the input reads as it did. -/
def utcbTellsSpec : ChangeSpec := { name := "utcbTells", fn := fun _ => fun
  | [d1, d2, d3] => { results := [.lit (.bool true)], args := [d1, d2, d3] }
  | _ => none }
def utcbTellsRow : OpenClaim := { program := "ytgacfgofpanchaa", sum := "d6bc1888094918486b7de3deb5431b339d9c7f150f5bc3a0d833f037b3323491", func := "quartermaster/quartermasterlaw14.UtcbTells", spec := "utcbTells", apart := false }
def UtcbTellsSaid : Prop := utcbTellsRow.holds Try.pinned (OpenSpec.ofChange utcbTellsSpec)

/-- ITS FALSE NEIGHBOUR: 'it returns false'. Refute it at one input. -/
def utcbTellsWrong : ChangeSpec := { name := "utcbTells", fn := fun _ => fun
  | [d1, d2, d3] => { results := [.lit (.bool false)], args := [d1, d2, d3] }
  | _ => none }
def UtcbTellsWrongFalsely : Prop := utcbTellsRow.holds Try.pinned (OpenSpec.ofChange utcbTellsWrong)

/-- 'quartermasterlaw14.UtcbAgain': WHATEVER THE INPUT: true; the input reads as it did. -/
def utcbAgainSpec : ChangeSpec := { name := "utcbAgain", fn := fun _ => fun
  | [d1, d2] => { results := [.lit (.bool true)], args := [d1, d2] }
  | _ => none }
def utcbAgainRow : OpenClaim := { program := "ytgacfgofpanchaa", sum := "d6bc1888094918486b7de3deb5431b339d9c7f150f5bc3a0d833f037b3323491", func := "quartermaster/quartermasterlaw14.UtcbAgain", spec := "utcbAgain", apart := false }
def UtcbAgainSaid : Prop := utcbAgainRow.holds Try.pinned (OpenSpec.ofChange utcbAgainSpec)

/-- ITS FALSE NEIGHBOUR: 'it returns false'. Refute it at one input. -/
def utcbAgainWrong : ChangeSpec := { name := "utcbAgain", fn := fun _ => fun
  | [d1, d2] => { results := [.lit (.bool false)], args := [d1, d2] }
  | _ => none }
def UtcbAgainWrongFalsely : Prop := utcbAgainRow.holds Try.pinned (OpenSpec.ofChange utcbAgainWrong)

/-- 'quartermasterlaw14.UtcbBack': WHATEVER THE INPUT: true; the input reads as it did. -/
def utcbBackSpec : ChangeSpec := { name := "utcbBack", fn := fun _ => fun
  | [d1, d2, d3, d4] => { results := [.lit (.bool true)], args := [d1, d2, d3, d4] }
  | _ => none }
def utcbBackRow : OpenClaim := { program := "ytgacfgofpanchaa", sum := "d6bc1888094918486b7de3deb5431b339d9c7f150f5bc3a0d833f037b3323491", func := "quartermaster/quartermasterlaw14.UtcbBack", spec := "utcbBack", apart := false }
def UtcbBackSaid : Prop := utcbBackRow.holds Try.pinned (OpenSpec.ofChange utcbBackSpec)

/-- ITS FALSE NEIGHBOUR: 'it returns false'. Refute it at one input. -/
def utcbBackWrong : ChangeSpec := { name := "utcbBack", fn := fun _ => fun
  | [d1, d2, d3, d4] => { results := [.lit (.bool false)], args := [d1, d2, d3, d4] }
  | _ => none }
def UtcbBackWrongFalsely : Prop := utcbBackRow.holds Try.pinned (OpenSpec.ofChange utcbBackWrong)

/-- 'quartermasterlaw14.UtcbElse': WHATEVER THE INPUT: true; the input reads as it did. -/
def utcbElseSpec : ChangeSpec := { name := "utcbElse", fn := fun _ => fun
  | [d1, d2] => { results := [.lit (.bool true)], args := [d1, d2] }
  | _ => none }
def utcbElseRow : OpenClaim := { program := "ytgacfgofpanchaa", sum := "d6bc1888094918486b7de3deb5431b339d9c7f150f5bc3a0d833f037b3323491", func := "quartermaster/quartermasterlaw14.UtcbElse", spec := "utcbElse", apart := false }
def UtcbElseSaid : Prop := utcbElseRow.holds Try.pinned (OpenSpec.ofChange utcbElseSpec)

/-- ITS FALSE NEIGHBOUR: 'it returns false'. Refute it at one input. -/
def utcbElseWrong : ChangeSpec := { name := "utcbElse", fn := fun _ => fun
  | [d1, d2] => { results := [.lit (.bool false)], args := [d1, d2] }
  | _ => none }
def UtcbElseWrongFalsely : Prop := utcbElseRow.holds Try.pinned (OpenSpec.ofChange utcbElseWrong)

/- THE SECOND FORM. 'bulk': how many values and letters a reading holds, each counted each time it is reached (what is shared counts as often as it is met; a slice's spare places count too). A statement '..UptoSaid' is the law's where the arguments, and the package variables that the reading takes, are together of bulk at most 1048576: NARROWER than '..Said'. Prove '..Said' where nothing that the law and all that it calls make is longer than what came in: it says more and counts as full. Else prove '..UptoSaid'. A law counts once. -/
mutual
def uptoBulk {H : Type} : DataW H → Nat
  | .lit (.string bytes) => bytes.length + 1
  | .lit _ => 1
  | .nil => 1
  | .ptr d => uptoBulk d + 1
  | .slice elems spare => uptoBulkAll elems + uptoBulkAll spare + 1
  | .agg parts => uptoBulkAll parts + 1
  | .iface _ d => uptoBulk d + 1
  | .map entries => uptoBulkEntries entries + 1
  | .held _ => 1
def uptoBulkAll {H : Type} : List (DataW H) → Nat
  | [] => 0
  | d :: r => uptoBulk d + uptoBulkAll r
def uptoBulkEntries {H : Type} : List (Lit × DataW H) → Nat
  | [] => 0
  | x :: r => uptoBulkEntry x + uptoBulkEntries r
def uptoBulkEntry {H : Type} : Lit × DataW H → Nat
  | (.string bytes, d) => bytes.length + uptoBulk d + 1
  | (_, d) => uptoBulk d + 1
 end
def uptoSmall : (H : Type) → List (DataW H) → Bool := fun _ ds => decide (uptoBulkAll ds ≤ 1048576)
def OpenSpec.upto (s : _root_.Go.ChangeSpec) : _root_.Go.OpenSpec := { _root_.Go.OpenSpec.ofChange s with cond := some uptoSmall }

/-- 'quartermasterlaw14.UtcbItems', WHERE WHAT IT READS IS OF BULK AT MOST 1048576: true; the input reads as it did. -/
def utcbItemsUptoRow : OpenClaim := { program := "ytgacfgofpanchaa", sum := "d6bc1888094918486b7de3deb5431b339d9c7f150f5bc3a0d833f037b3323491", func := "quartermaster/quartermasterlaw14.UtcbItems", spec := "utcbItems", apart := false, narrowed := true }
def UtcbItemsUptoSaid : Prop := utcbItemsUptoRow.holds Try.pinned (OpenSpec.upto utcbItemsSpec)

/-- 'quartermasterlaw14.UtcbItemBack', WHERE WHAT IT READS IS OF BULK AT MOST 1048576: true; the input reads as it did. -/
def utcbItemBackUptoRow : OpenClaim := { program := "ytgacfgofpanchaa", sum := "d6bc1888094918486b7de3deb5431b339d9c7f150f5bc3a0d833f037b3323491", func := "quartermaster/quartermasterlaw14.UtcbItemBack", spec := "utcbItemBack", apart := false, narrowed := true }
def UtcbItemBackUptoSaid : Prop := utcbItemBackUptoRow.holds Try.pinned (OpenSpec.upto utcbItemBackSpec)

/-- 'quartermasterlaw14.UtcbActs', WHERE WHAT IT READS IS OF BULK AT MOST 1048576: true; the input reads as it did. -/
def utcbActsUptoRow : OpenClaim := { program := "ytgacfgofpanchaa", sum := "d6bc1888094918486b7de3deb5431b339d9c7f150f5bc3a0d833f037b3323491", func := "quartermaster/quartermasterlaw14.UtcbActs", spec := "utcbActs", apart := false, narrowed := true }
def UtcbActsUptoSaid : Prop := utcbActsUptoRow.holds Try.pinned (OpenSpec.upto utcbActsSpec)

/-- 'quartermasterlaw14.UtcbTells', WHERE WHAT IT READS IS OF BULK AT MOST 1048576: true; the input reads as it did. -/
def utcbTellsUptoRow : OpenClaim := { program := "ytgacfgofpanchaa", sum := "d6bc1888094918486b7de3deb5431b339d9c7f150f5bc3a0d833f037b3323491", func := "quartermaster/quartermasterlaw14.UtcbTells", spec := "utcbTells", apart := false, narrowed := true }
def UtcbTellsUptoSaid : Prop := utcbTellsUptoRow.holds Try.pinned (OpenSpec.upto utcbTellsSpec)

/-- 'quartermasterlaw14.UtcbAgain', WHERE WHAT IT READS IS OF BULK AT MOST 1048576: true; the input reads as it did. -/
def utcbAgainUptoRow : OpenClaim := { program := "ytgacfgofpanchaa", sum := "d6bc1888094918486b7de3deb5431b339d9c7f150f5bc3a0d833f037b3323491", func := "quartermaster/quartermasterlaw14.UtcbAgain", spec := "utcbAgain", apart := false, narrowed := true }
def UtcbAgainUptoSaid : Prop := utcbAgainUptoRow.holds Try.pinned (OpenSpec.upto utcbAgainSpec)

/-- 'quartermasterlaw14.UtcbBack', WHERE WHAT IT READS IS OF BULK AT MOST 1048576: true; the input reads as it did. -/
def utcbBackUptoRow : OpenClaim := { program := "ytgacfgofpanchaa", sum := "d6bc1888094918486b7de3deb5431b339d9c7f150f5bc3a0d833f037b3323491", func := "quartermaster/quartermasterlaw14.UtcbBack", spec := "utcbBack", apart := false, narrowed := true }
def UtcbBackUptoSaid : Prop := utcbBackUptoRow.holds Try.pinned (OpenSpec.upto utcbBackSpec)

/-- 'quartermasterlaw14.UtcbElse', WHERE WHAT IT READS IS OF BULK AT MOST 1048576: true; the input reads as it did. -/
def utcbElseUptoRow : OpenClaim := { program := "ytgacfgofpanchaa", sum := "d6bc1888094918486b7de3deb5431b339d9c7f150f5bc3a0d833f037b3323491", func := "quartermaster/quartermasterlaw14.UtcbElse", spec := "utcbElse", apart := false, narrowed := true }
def UtcbElseUptoSaid : Prop := utcbElseUptoRow.holds Try.pinned (OpenSpec.upto utcbElseSpec)

end Rows
end Go.Proofs.Ytgacfgofpanchaa
