/-
  NARROWER THAN 'FOR EVERY INPUT', by the rows' own cells (each row's printed sentence says how): PartitionOf: laid · PartitionValid: laid · PartitionLaws: laid · PartitionUnion: laid · PartitionRemoval: laid · PartitionLeast: laid · PartitionProduct: laid · PartitionHolds: laid.
  DERIVED. THE GIVEN ROWS OF THIS SEAT. 8 by the template 'for every input the law returns true; each argument reads behind the call as it read before'; 0 by the template 'total and deterministic' (their statements: YtgclpapfgmckbaaDoorTotals.lean).
  GIVEN WITH THE SEED: the statements are not yours to turn. If you find one false, say at which input.
  Laid BY PROGRAM, IN A SANDBOX (cutbox-rows.mjs): the forced cells as the released guide's own fill.sh prints them over the translation dedb4a6cae2ccc47… (all of the seat's roots in one cut). By AI agents, Wed Nov 11 2026. No macro, syntax, notation, axiom, sorry.
-/
import Derived.Test.YtgclpapfgmckbaaDoorChecked
import GoSem.Claim
import GoSem.ClaimJoined
import GoSem.ClaimMapViews
import Derived.JoinedTies
import Derived.KernelRfl
namespace Go.Proofs.YtgclpapfgmckbaaDoor
/- THE CELL 'sum', in the pinned program and in every row, IS THE sha256 OF THE DUMP (.gsa) THAT YtgclpapfgmckbaaDoorProg.lean LOADS. Nothing in Lean hashes anything: it is a label: what it is worth is what the hold of that sum in a sandbox is worth. -/
noncomputable def Tryd.pinned : Pinned := { name := "ytgclpapfgmckbaadoor", sum := "dedb4a6cae2ccc475b364e860244f944938f5a0bfc5ce7326b5c51f85a37ff3c", checked := Tryd.checked }
namespace Rows
def none {H : Type} : Left H := { results := [], args := [] }

/- WHAT THE LISTED PACKAGE-LEVEL VARIABLES READ AS WHEN THE CALL BEGINS. Each datum BY PROGRAM (the guide's laid-datum.mjs) off the statement by which the dump's own 'gosem.cut.vars' lays the variable. In a bare row this is a premise. The card (YtgclpapfgmckbaaDoorCards.lean) ties it to the program's text. -/
def laid_math_bits_deBruijn32tab {H : Type} : DataW H := .agg [.lit (.int .u8 0), .lit (.int .u8 1), .lit (.int .u8 28), .lit (.int .u8 2), .lit (.int .u8 29), .lit (.int .u8 14), .lit (.int .u8 24), .lit (.int .u8 3), .lit (.int .u8 30), .lit (.int .u8 22), .lit (.int .u8 20), .lit (.int .u8 15), .lit (.int .u8 25), .lit (.int .u8 17), .lit (.int .u8 4), .lit (.int .u8 8), .lit (.int .u8 31), .lit (.int .u8 27), .lit (.int .u8 13), .lit (.int .u8 23), .lit (.int .u8 21), .lit (.int .u8 19), .lit (.int .u8 16), .lit (.int .u8 7), .lit (.int .u8 26), .lit (.int .u8 12), .lit (.int .u8 18), .lit (.int .u8 6), .lit (.int .u8 11), .lit (.int .u8 5), .lit (.int .u8 10), .lit (.int .u8 9)]

/-- 'drosslaw08.PartitionOf': WHATEVER THE INPUT: true; the input reads as it did. -/
def partitionOfSpec : ChangeSpec := { name := "partitionOf", fn := fun _ => fun
  | [d1, d2] => { results := [.lit (.bool true)], args := [d1, d2] }
  | _ => none }
def partitionOfRow : OpenClaim := { program := "ytgclpapfgmckbaadoor", sum := "dedb4a6cae2ccc475b364e860244f944938f5a0bfc5ce7326b5c51f85a37ff3c", func := "dross/drosslaw08.PartitionOf", spec := "partitionOf", inPlace := ["internal/abi.NoEscape"], unfollowed := true, recurses := true, named := ["math/bits.deBruijn32tab"], plainKeys := false, apart := false, laid := [("math/bits.deBruijn32tab", laid_math_bits_deBruijn32tab)] }
def PartitionOfSaid : Prop := partitionOfRow.holds Tryd.pinned (OpenSpec.ofChange partitionOfSpec)

/-- ITS FALSE NEIGHBOUR: 'it returns false'. Refute it at one input. -/
def partitionOfWrong : ChangeSpec := { name := "partitionOf", fn := fun _ => fun
  | [d1, d2] => { results := [.lit (.bool false)], args := [d1, d2] }
  | _ => none }
def PartitionOfWrongFalsely : Prop := partitionOfRow.holds Tryd.pinned (OpenSpec.ofChange partitionOfWrong)

/-- 'drosslaw08.PartitionValid': WHATEVER THE INPUT: true; the input reads as it did. -/
def partitionValidSpec : ChangeSpec := { name := "partitionValid", fn := fun _ => fun
  | [d] => { results := [.lit (.bool true)], args := [d] }
  | _ => none }
def partitionValidRow : OpenClaim := { program := "ytgclpapfgmckbaadoor", sum := "dedb4a6cae2ccc475b364e860244f944938f5a0bfc5ce7326b5c51f85a37ff3c", func := "dross/drosslaw08.PartitionValid", spec := "partitionValid", inPlace := ["internal/abi.NoEscape"], unfollowed := true, recurses := true, named := ["math/bits.deBruijn32tab"], plainKeys := false, apart := false, laid := [("math/bits.deBruijn32tab", laid_math_bits_deBruijn32tab)] }
def PartitionValidSaid : Prop := partitionValidRow.holds Tryd.pinned (OpenSpec.ofChange partitionValidSpec)

/-- ITS FALSE NEIGHBOUR: 'it returns false'. Refute it at one input. -/
def partitionValidWrong : ChangeSpec := { name := "partitionValid", fn := fun _ => fun
  | [d] => { results := [.lit (.bool false)], args := [d] }
  | _ => none }
def PartitionValidWrongFalsely : Prop := partitionValidRow.holds Tryd.pinned (OpenSpec.ofChange partitionValidWrong)

/-- 'drosslaw08.PartitionLaws': WHATEVER THE INPUT: true; the input reads as it did. -/
def partitionLawsSpec : ChangeSpec := { name := "partitionLaws", fn := fun _ => fun
  | [d] => { results := [.lit (.bool true)], args := [d] }
  | _ => none }
def partitionLawsRow : OpenClaim := { program := "ytgclpapfgmckbaadoor", sum := "dedb4a6cae2ccc475b364e860244f944938f5a0bfc5ce7326b5c51f85a37ff3c", func := "dross/drosslaw08.PartitionLaws", spec := "partitionLaws", inPlace := ["internal/abi.NoEscape"], unfollowed := true, recurses := true, named := ["math/bits.deBruijn32tab"], plainKeys := false, apart := false, laid := [("math/bits.deBruijn32tab", laid_math_bits_deBruijn32tab)] }
def PartitionLawsSaid : Prop := partitionLawsRow.holds Tryd.pinned (OpenSpec.ofChange partitionLawsSpec)

/-- ITS FALSE NEIGHBOUR: 'it returns false'. Refute it at one input. -/
def partitionLawsWrong : ChangeSpec := { name := "partitionLaws", fn := fun _ => fun
  | [d] => { results := [.lit (.bool false)], args := [d] }
  | _ => none }
def PartitionLawsWrongFalsely : Prop := partitionLawsRow.holds Tryd.pinned (OpenSpec.ofChange partitionLawsWrong)

/-- 'drosslaw08.PartitionUnion': WHATEVER THE INPUT: true; the input reads as it did. -/
def partitionUnionSpec : ChangeSpec := { name := "partitionUnion", fn := fun _ => fun
  | [d1, d2, d3] => { results := [.lit (.bool true)], args := [d1, d2, d3] }
  | _ => none }
def partitionUnionRow : OpenClaim := { program := "ytgclpapfgmckbaadoor", sum := "dedb4a6cae2ccc475b364e860244f944938f5a0bfc5ce7326b5c51f85a37ff3c", func := "dross/drosslaw08.PartitionUnion", spec := "partitionUnion", inPlace := ["internal/abi.NoEscape"], unfollowed := true, recurses := true, named := ["math/bits.deBruijn32tab"], plainKeys := false, apart := false, laid := [("math/bits.deBruijn32tab", laid_math_bits_deBruijn32tab)] }
def PartitionUnionSaid : Prop := partitionUnionRow.holds Tryd.pinned (OpenSpec.ofChange partitionUnionSpec)

/-- ITS FALSE NEIGHBOUR: 'it returns false'. Refute it at one input. -/
def partitionUnionWrong : ChangeSpec := { name := "partitionUnion", fn := fun _ => fun
  | [d1, d2, d3] => { results := [.lit (.bool false)], args := [d1, d2, d3] }
  | _ => none }
def PartitionUnionWrongFalsely : Prop := partitionUnionRow.holds Tryd.pinned (OpenSpec.ofChange partitionUnionWrong)

/-- 'drosslaw08.PartitionRemoval': WHATEVER THE INPUT: true; the input reads as it did. -/
def partitionRemovalSpec : ChangeSpec := { name := "partitionRemoval", fn := fun _ => fun
  | [d1, d2] => { results := [.lit (.bool true)], args := [d1, d2] }
  | _ => none }
def partitionRemovalRow : OpenClaim := { program := "ytgclpapfgmckbaadoor", sum := "dedb4a6cae2ccc475b364e860244f944938f5a0bfc5ce7326b5c51f85a37ff3c", func := "dross/drosslaw08.PartitionRemoval", spec := "partitionRemoval", inPlace := ["internal/abi.NoEscape"], unfollowed := true, recurses := true, named := ["math/bits.deBruijn32tab"], plainKeys := false, apart := false, laid := [("math/bits.deBruijn32tab", laid_math_bits_deBruijn32tab)] }
def PartitionRemovalSaid : Prop := partitionRemovalRow.holds Tryd.pinned (OpenSpec.ofChange partitionRemovalSpec)

/-- ITS FALSE NEIGHBOUR: 'it returns false'. Refute it at one input. -/
def partitionRemovalWrong : ChangeSpec := { name := "partitionRemoval", fn := fun _ => fun
  | [d1, d2] => { results := [.lit (.bool false)], args := [d1, d2] }
  | _ => none }
def PartitionRemovalWrongFalsely : Prop := partitionRemovalRow.holds Tryd.pinned (OpenSpec.ofChange partitionRemovalWrong)

/-- 'drosslaw08.PartitionLeast': WHATEVER THE INPUT: true; the input reads as it did. -/
def partitionLeastSpec : ChangeSpec := { name := "partitionLeast", fn := fun _ => fun
  | [d] => { results := [.lit (.bool true)], args := [d] }
  | _ => none }
def partitionLeastRow : OpenClaim := { program := "ytgclpapfgmckbaadoor", sum := "dedb4a6cae2ccc475b364e860244f944938f5a0bfc5ce7326b5c51f85a37ff3c", func := "dross/drosslaw08.PartitionLeast", spec := "partitionLeast", inPlace := ["internal/abi.NoEscape"], unfollowed := true, recurses := true, named := ["math/bits.deBruijn32tab"], plainKeys := false, apart := false, laid := [("math/bits.deBruijn32tab", laid_math_bits_deBruijn32tab)] }
def PartitionLeastSaid : Prop := partitionLeastRow.holds Tryd.pinned (OpenSpec.ofChange partitionLeastSpec)

/-- ITS FALSE NEIGHBOUR: 'it returns false'. Refute it at one input. -/
def partitionLeastWrong : ChangeSpec := { name := "partitionLeast", fn := fun _ => fun
  | [d] => { results := [.lit (.bool false)], args := [d] }
  | _ => none }
def PartitionLeastWrongFalsely : Prop := partitionLeastRow.holds Tryd.pinned (OpenSpec.ofChange partitionLeastWrong)

/-- 'drosslaw08.PartitionProduct': WHATEVER THE INPUT: true; the input reads as it did. -/
def partitionProductSpec : ChangeSpec := { name := "partitionProduct", fn := fun _ => fun
  | [d1, d2] => { results := [.lit (.bool true)], args := [d1, d2] }
  | _ => none }
def partitionProductRow : OpenClaim := { program := "ytgclpapfgmckbaadoor", sum := "dedb4a6cae2ccc475b364e860244f944938f5a0bfc5ce7326b5c51f85a37ff3c", func := "dross/drosslaw08.PartitionProduct", spec := "partitionProduct", inPlace := ["internal/abi.NoEscape"], unfollowed := true, recurses := true, named := ["math/bits.deBruijn32tab"], plainKeys := false, apart := false, laid := [("math/bits.deBruijn32tab", laid_math_bits_deBruijn32tab)] }
def PartitionProductSaid : Prop := partitionProductRow.holds Tryd.pinned (OpenSpec.ofChange partitionProductSpec)

/-- ITS FALSE NEIGHBOUR: 'it returns false'. Refute it at one input. -/
def partitionProductWrong : ChangeSpec := { name := "partitionProduct", fn := fun _ => fun
  | [d1, d2] => { results := [.lit (.bool false)], args := [d1, d2] }
  | _ => none }
def PartitionProductWrongFalsely : Prop := partitionProductRow.holds Tryd.pinned (OpenSpec.ofChange partitionProductWrong)

/-- 'drosslaw08.PartitionHolds': WHATEVER THE INPUT: true; the input reads as it did. -/
def partitionHoldsSpec : ChangeSpec := { name := "partitionHolds", fn := fun _ => fun
  | [d1, d2] => { results := [.lit (.bool true)], args := [d1, d2] }
  | _ => none }
def partitionHoldsRow : OpenClaim := { program := "ytgclpapfgmckbaadoor", sum := "dedb4a6cae2ccc475b364e860244f944938f5a0bfc5ce7326b5c51f85a37ff3c", func := "dross/drosslaw08.PartitionHolds", spec := "partitionHolds", inPlace := ["internal/abi.NoEscape"], unfollowed := true, recurses := true, named := ["math/bits.deBruijn32tab"], plainKeys := false, apart := false, laid := [("math/bits.deBruijn32tab", laid_math_bits_deBruijn32tab)] }
def PartitionHoldsSaid : Prop := partitionHoldsRow.holds Tryd.pinned (OpenSpec.ofChange partitionHoldsSpec)

/-- ITS FALSE NEIGHBOUR: 'it returns false'. Refute it at one input. -/
def partitionHoldsWrong : ChangeSpec := { name := "partitionHolds", fn := fun _ => fun
  | [d1, d2] => { results := [.lit (.bool false)], args := [d1, d2] }
  | _ => none }
def PartitionHoldsWrongFalsely : Prop := partitionHoldsRow.holds Tryd.pinned (OpenSpec.ofChange partitionHoldsWrong)

/- THE SECOND FORM. 'bulk': how many values and letters a reading holds, each counted each time it is reached (what is shared counts as often as it is met; a slice's spare places count too). A statement '..UptoSaid' is the law's where the arguments, and the package variables that the reading takes, are together of bulk at most 1048576: NARROWER than '..Said'. Prove '..Said' where nothing that the law and all that it calls make is longer than what came in: it says more and counts as full. Else prove '..UptoSaid'. A law counts once. -/
mutual
def uptoBulk {H : Type} : DataW H → Nat
  | .lit (.string bytes) => bytes.length + 1
  | .lit _ => 1
  | .nil => 1
  | .ptr d => uptoBulk d + 1
  | .slice elems spare => uptoBulkAll elems + uptoBulkAll spare + 1
  | .agg parts => uptoBulkAll parts + 1
  | .iface _ d => uptoBulk d + 1
  | .map entries => uptoBulkEntries entries + 1
  | .held _ => 1
def uptoBulkAll {H : Type} : List (DataW H) → Nat
  | [] => 0
  | d :: r => uptoBulk d + uptoBulkAll r
def uptoBulkEntries {H : Type} : List (Lit × DataW H) → Nat
  | [] => 0
  | x :: r => uptoBulkEntry x + uptoBulkEntries r
def uptoBulkEntry {H : Type} : Lit × DataW H → Nat
  | (.string bytes, d) => bytes.length + uptoBulk d + 1
  | (_, d) => uptoBulk d + 1
 end
def uptoSmall : (H : Type) → List (DataW H) → Bool := fun _ ds => decide (uptoBulkAll ds ≤ 1048576)
def OpenSpec.upto (s : _root_.Go.ChangeSpec) : _root_.Go.OpenSpec := { _root_.Go.OpenSpec.ofChange s with cond := some uptoSmall }

/-- 'drosslaw08.PartitionOf', WHERE WHAT IT READS IS OF BULK AT MOST 1048576: true; the input reads as it did. -/
def partitionOfUptoRow : OpenClaim := { program := "ytgclpapfgmckbaadoor", sum := "dedb4a6cae2ccc475b364e860244f944938f5a0bfc5ce7326b5c51f85a37ff3c", func := "dross/drosslaw08.PartitionOf", spec := "partitionOf", inPlace := ["internal/abi.NoEscape"], unfollowed := true, recurses := true, named := ["math/bits.deBruijn32tab"], plainKeys := false, apart := false, laid := [("math/bits.deBruijn32tab", laid_math_bits_deBruijn32tab)], narrowed := true }
def PartitionOfUptoSaid : Prop := partitionOfUptoRow.holds Tryd.pinned (OpenSpec.upto partitionOfSpec)

/-- 'drosslaw08.PartitionValid', WHERE WHAT IT READS IS OF BULK AT MOST 1048576: true; the input reads as it did. -/
def partitionValidUptoRow : OpenClaim := { program := "ytgclpapfgmckbaadoor", sum := "dedb4a6cae2ccc475b364e860244f944938f5a0bfc5ce7326b5c51f85a37ff3c", func := "dross/drosslaw08.PartitionValid", spec := "partitionValid", inPlace := ["internal/abi.NoEscape"], unfollowed := true, recurses := true, named := ["math/bits.deBruijn32tab"], plainKeys := false, apart := false, laid := [("math/bits.deBruijn32tab", laid_math_bits_deBruijn32tab)], narrowed := true }
def PartitionValidUptoSaid : Prop := partitionValidUptoRow.holds Tryd.pinned (OpenSpec.upto partitionValidSpec)

/-- 'drosslaw08.PartitionLaws', WHERE WHAT IT READS IS OF BULK AT MOST 1048576: true; the input reads as it did. -/
def partitionLawsUptoRow : OpenClaim := { program := "ytgclpapfgmckbaadoor", sum := "dedb4a6cae2ccc475b364e860244f944938f5a0bfc5ce7326b5c51f85a37ff3c", func := "dross/drosslaw08.PartitionLaws", spec := "partitionLaws", inPlace := ["internal/abi.NoEscape"], unfollowed := true, recurses := true, named := ["math/bits.deBruijn32tab"], plainKeys := false, apart := false, laid := [("math/bits.deBruijn32tab", laid_math_bits_deBruijn32tab)], narrowed := true }
def PartitionLawsUptoSaid : Prop := partitionLawsUptoRow.holds Tryd.pinned (OpenSpec.upto partitionLawsSpec)

/-- 'drosslaw08.PartitionUnion', WHERE WHAT IT READS IS OF BULK AT MOST 1048576: true; the input reads as it did. -/
def partitionUnionUptoRow : OpenClaim := { program := "ytgclpapfgmckbaadoor", sum := "dedb4a6cae2ccc475b364e860244f944938f5a0bfc5ce7326b5c51f85a37ff3c", func := "dross/drosslaw08.PartitionUnion", spec := "partitionUnion", inPlace := ["internal/abi.NoEscape"], unfollowed := true, recurses := true, named := ["math/bits.deBruijn32tab"], plainKeys := false, apart := false, laid := [("math/bits.deBruijn32tab", laid_math_bits_deBruijn32tab)], narrowed := true }
def PartitionUnionUptoSaid : Prop := partitionUnionUptoRow.holds Tryd.pinned (OpenSpec.upto partitionUnionSpec)

/-- 'drosslaw08.PartitionRemoval', WHERE WHAT IT READS IS OF BULK AT MOST 1048576: true; the input reads as it did. -/
def partitionRemovalUptoRow : OpenClaim := { program := "ytgclpapfgmckbaadoor", sum := "dedb4a6cae2ccc475b364e860244f944938f5a0bfc5ce7326b5c51f85a37ff3c", func := "dross/drosslaw08.PartitionRemoval", spec := "partitionRemoval", inPlace := ["internal/abi.NoEscape"], unfollowed := true, recurses := true, named := ["math/bits.deBruijn32tab"], plainKeys := false, apart := false, laid := [("math/bits.deBruijn32tab", laid_math_bits_deBruijn32tab)], narrowed := true }
def PartitionRemovalUptoSaid : Prop := partitionRemovalUptoRow.holds Tryd.pinned (OpenSpec.upto partitionRemovalSpec)

/-- 'drosslaw08.PartitionLeast', WHERE WHAT IT READS IS OF BULK AT MOST 1048576: true; the input reads as it did. -/
def partitionLeastUptoRow : OpenClaim := { program := "ytgclpapfgmckbaadoor", sum := "dedb4a6cae2ccc475b364e860244f944938f5a0bfc5ce7326b5c51f85a37ff3c", func := "dross/drosslaw08.PartitionLeast", spec := "partitionLeast", inPlace := ["internal/abi.NoEscape"], unfollowed := true, recurses := true, named := ["math/bits.deBruijn32tab"], plainKeys := false, apart := false, laid := [("math/bits.deBruijn32tab", laid_math_bits_deBruijn32tab)], narrowed := true }
def PartitionLeastUptoSaid : Prop := partitionLeastUptoRow.holds Tryd.pinned (OpenSpec.upto partitionLeastSpec)

/-- 'drosslaw08.PartitionProduct', WHERE WHAT IT READS IS OF BULK AT MOST 1048576: true; the input reads as it did. -/
def partitionProductUptoRow : OpenClaim := { program := "ytgclpapfgmckbaadoor", sum := "dedb4a6cae2ccc475b364e860244f944938f5a0bfc5ce7326b5c51f85a37ff3c", func := "dross/drosslaw08.PartitionProduct", spec := "partitionProduct", inPlace := ["internal/abi.NoEscape"], unfollowed := true, recurses := true, named := ["math/bits.deBruijn32tab"], plainKeys := false, apart := false, laid := [("math/bits.deBruijn32tab", laid_math_bits_deBruijn32tab)], narrowed := true }
def PartitionProductUptoSaid : Prop := partitionProductUptoRow.holds Tryd.pinned (OpenSpec.upto partitionProductSpec)

/-- 'drosslaw08.PartitionHolds', WHERE WHAT IT READS IS OF BULK AT MOST 1048576: true; the input reads as it did. -/
def partitionHoldsUptoRow : OpenClaim := { program := "ytgclpapfgmckbaadoor", sum := "dedb4a6cae2ccc475b364e860244f944938f5a0bfc5ce7326b5c51f85a37ff3c", func := "dross/drosslaw08.PartitionHolds", spec := "partitionHolds", inPlace := ["internal/abi.NoEscape"], unfollowed := true, recurses := true, named := ["math/bits.deBruijn32tab"], plainKeys := false, apart := false, laid := [("math/bits.deBruijn32tab", laid_math_bits_deBruijn32tab)], narrowed := true }
def PartitionHoldsUptoSaid : Prop := partitionHoldsUptoRow.holds Tryd.pinned (OpenSpec.upto partitionHoldsSpec)

end Rows
end Go.Proofs.YtgclpapfgmckbaaDoor
