/-
  NARROWER THAN 'FOR EVERY INPUT', by the rows' own cells (each row's printed sentence says how): TractableErrors: laid · TractableClear: laid · TractableApply: laid · TractableCheck: laid.
  DERIVED. THE GIVEN ROWS OF THIS SEAT. 4 by the template 'for every input the law returns true; each argument reads behind the call as it read before'; 0 by the template 'total and deterministic' (their statements: YtbemcminbfhakabGreatDoorTotals.lean).
  GIVEN WITH THE SEED: the statements are not yours to turn. If you find one false, say at which input.
  Laid BY PROGRAM, IN A SANDBOX (cutbox-rows.mjs): the forced cells as the released guide's own fill.sh prints them over the translation 1fceeeb917055dbb… (all of the seat's roots in one cut). By AI agents, Wed Nov 11 2026. No macro, syntax, notation, axiom, sorry.
-/
import Derived.Test.YtbemcminbfhakabGreatDoorChecked
import GoSem.Claim
import GoSem.ClaimJoined
import GoSem.ClaimMapViews
import Derived.JoinedTies
import Derived.KernelRfl
namespace Go.Proofs.YtbemcminbfhakabGreatDoor
/- THE CELL 'sum', in the pinned program and in every row, IS THE sha256 OF THE DUMP (.gsa) THAT YtbemcminbfhakabGreatDoorProg.lean LOADS. Nothing in Lean hashes anything: it is a label: what it is worth is what the hold of that sum in a sandbox is worth. -/
noncomputable def Tryz.pinned : Pinned := { name := "ytbemcminbfhakabgreatdoor", sum := "1fceeeb917055dbb962c77c8a188c81d63ec211baa0d31e017c78ee651311e38", checked := Tryz.checked }
namespace Rows
def none {H : Type} : Left H := { results := [], args := [] }

/- WHAT THE LISTED PACKAGE-LEVEL VARIABLES READ AS WHEN THE CALL BEGINS. Each datum BY PROGRAM (the guide's laid-datum.mjs) off the statement by which the dump's own 'gosem.cut.vars' lays the variable. In a bare row this is a premise. The card (YtbemcminbfhakabGreatDoorCards.lean) ties it to the program's text. -/
def laid_math_bits_deBruijn32tab {H : Type} : DataW H := .agg [.lit (.int .u8 0), .lit (.int .u8 1), .lit (.int .u8 28), .lit (.int .u8 2), .lit (.int .u8 29), .lit (.int .u8 14), .lit (.int .u8 24), .lit (.int .u8 3), .lit (.int .u8 30), .lit (.int .u8 22), .lit (.int .u8 20), .lit (.int .u8 15), .lit (.int .u8 25), .lit (.int .u8 17), .lit (.int .u8 4), .lit (.int .u8 8), .lit (.int .u8 31), .lit (.int .u8 27), .lit (.int .u8 13), .lit (.int .u8 23), .lit (.int .u8 21), .lit (.int .u8 19), .lit (.int .u8 16), .lit (.int .u8 7), .lit (.int .u8 26), .lit (.int .u8 12), .lit (.int .u8 18), .lit (.int .u8 6), .lit (.int .u8 11), .lit (.int .u8 5), .lit (.int .u8 10), .lit (.int .u8 9)]

/-- 'drosslaw42.TractableErrors': WHATEVER THE INPUT: true; the input reads as it did. -/
def tractableErrorsSpec : ChangeSpec := { name := "tractableErrors", fn := fun _ => fun
  | [d1, d2, d3] => { results := [.lit (.bool true)], args := [d1, d2, d3] }
  | _ => none }
def tractableErrorsRow : OpenClaim := { program := "ytbemcminbfhakabgreatdoor", sum := "1fceeeb917055dbb962c77c8a188c81d63ec211baa0d31e017c78ee651311e38", func := "dross/drosslaw42.TractableErrors", spec := "tractableErrors", inPlace := ["internal/abi.NoEscape"], unfollowed := true, recurses := true, named := ["math/bits.deBruijn32tab"], apart := false, laid := [("math/bits.deBruijn32tab", laid_math_bits_deBruijn32tab)] }
def TractableErrorsSaid : Prop := tractableErrorsRow.holds Tryz.pinned (OpenSpec.ofChange tractableErrorsSpec)

/-- ITS FALSE NEIGHBOUR: 'it returns false'. Refute it at one input. -/
def tractableErrorsWrong : ChangeSpec := { name := "tractableErrors", fn := fun _ => fun
  | [d1, d2, d3] => { results := [.lit (.bool false)], args := [d1, d2, d3] }
  | _ => none }
def TractableErrorsWrongFalsely : Prop := tractableErrorsRow.holds Tryz.pinned (OpenSpec.ofChange tractableErrorsWrong)

/-- 'drosslaw42.TractableClear': WHATEVER THE INPUT: true; the input reads as it did. -/
def tractableClearSpec : ChangeSpec := { name := "tractableClear", fn := fun _ => fun
  | [d] => { results := [.lit (.bool true)], args := [d] }
  | _ => none }
def tractableClearRow : OpenClaim := { program := "ytbemcminbfhakabgreatdoor", sum := "1fceeeb917055dbb962c77c8a188c81d63ec211baa0d31e017c78ee651311e38", func := "dross/drosslaw42.TractableClear", spec := "tractableClear", inPlace := ["internal/abi.NoEscape"], unfollowed := true, recurses := true, named := ["math/bits.deBruijn32tab"], apart := false, laid := [("math/bits.deBruijn32tab", laid_math_bits_deBruijn32tab)] }
def TractableClearSaid : Prop := tractableClearRow.holds Tryz.pinned (OpenSpec.ofChange tractableClearSpec)

/-- ITS FALSE NEIGHBOUR: 'it returns false'. Refute it at one input. -/
def tractableClearWrong : ChangeSpec := { name := "tractableClear", fn := fun _ => fun
  | [d] => { results := [.lit (.bool false)], args := [d] }
  | _ => none }
def TractableClearWrongFalsely : Prop := tractableClearRow.holds Tryz.pinned (OpenSpec.ofChange tractableClearWrong)

/-- 'drosslaw42.TractableApply': WHATEVER THE INPUT: true; the input reads as it did. -/
def tractableApplySpec : ChangeSpec := { name := "tractableApply", fn := fun _ => fun
  | [d1, d2] => { results := [.lit (.bool true)], args := [d1, d2] }
  | _ => none }
def tractableApplyRow : OpenClaim := { program := "ytbemcminbfhakabgreatdoor", sum := "1fceeeb917055dbb962c77c8a188c81d63ec211baa0d31e017c78ee651311e38", func := "dross/drosslaw42.TractableApply", spec := "tractableApply", inPlace := ["internal/abi.NoEscape"], unfollowed := true, recurses := true, named := ["math/bits.deBruijn32tab"], apart := false, laid := [("math/bits.deBruijn32tab", laid_math_bits_deBruijn32tab)] }
def TractableApplySaid : Prop := tractableApplyRow.holds Tryz.pinned (OpenSpec.ofChange tractableApplySpec)

/-- ITS FALSE NEIGHBOUR: 'it returns false'. Refute it at one input. -/
def tractableApplyWrong : ChangeSpec := { name := "tractableApply", fn := fun _ => fun
  | [d1, d2] => { results := [.lit (.bool false)], args := [d1, d2] }
  | _ => none }
def TractableApplyWrongFalsely : Prop := tractableApplyRow.holds Tryz.pinned (OpenSpec.ofChange tractableApplyWrong)

/-- 'drosslaw42.TractableCheck': WHATEVER THE INPUT: true; the input reads as it did. -/
def tractableCheckSpec : ChangeSpec := { name := "tractableCheck", fn := fun _ => fun
  | [d1, d2] => { results := [.lit (.bool true)], args := [d1, d2] }
  | _ => none }
def tractableCheckRow : OpenClaim := { program := "ytbemcminbfhakabgreatdoor", sum := "1fceeeb917055dbb962c77c8a188c81d63ec211baa0d31e017c78ee651311e38", func := "dross/drosslaw42.TractableCheck", spec := "tractableCheck", inPlace := ["internal/abi.NoEscape"], unfollowed := true, recurses := true, named := ["math/bits.deBruijn32tab"], apart := false, laid := [("math/bits.deBruijn32tab", laid_math_bits_deBruijn32tab)] }
def TractableCheckSaid : Prop := tractableCheckRow.holds Tryz.pinned (OpenSpec.ofChange tractableCheckSpec)

/-- ITS FALSE NEIGHBOUR: 'it returns false'. Refute it at one input. -/
def tractableCheckWrong : ChangeSpec := { name := "tractableCheck", fn := fun _ => fun
  | [d1, d2] => { results := [.lit (.bool false)], args := [d1, d2] }
  | _ => none }
def TractableCheckWrongFalsely : Prop := tractableCheckRow.holds Tryz.pinned (OpenSpec.ofChange tractableCheckWrong)

/- THE SECOND FORM. 'bulk': how many values and letters a reading holds, each counted each time it is reached (what is shared counts as often as it is met; a slice's spare places count too). A statement '..UptoSaid' is the law's where the arguments, and the package variables that the reading takes, are together of bulk at most 1048576: NARROWER than '..Said'. Prove '..Said' where nothing that the law and all that it calls make is longer than what came in: it says more and counts as full. Else prove '..UptoSaid'. A law counts once. -/
mutual
def uptoBulk {H : Type} : DataW H → Nat
  | .lit (.string bytes) => bytes.length + 1
  | .lit _ => 1
  | .nil => 1
  | .ptr d => uptoBulk d + 1
  | .slice elems spare => uptoBulkAll elems + uptoBulkAll spare + 1
  | .agg parts => uptoBulkAll parts + 1
  | .iface _ d => uptoBulk d + 1
  | .map entries => uptoBulkEntries entries + 1
  | .held _ => 1
def uptoBulkAll {H : Type} : List (DataW H) → Nat
  | [] => 0
  | d :: r => uptoBulk d + uptoBulkAll r
def uptoBulkEntries {H : Type} : List (Lit × DataW H) → Nat
  | [] => 0
  | x :: r => uptoBulkEntry x + uptoBulkEntries r
def uptoBulkEntry {H : Type} : Lit × DataW H → Nat
  | (.string bytes, d) => bytes.length + uptoBulk d + 1
  | (_, d) => uptoBulk d + 1
 end
def uptoSmall : (H : Type) → List (DataW H) → Bool := fun _ ds => decide (uptoBulkAll ds ≤ 1048576)
def OpenSpec.upto (s : _root_.Go.ChangeSpec) : _root_.Go.OpenSpec := { _root_.Go.OpenSpec.ofChange s with cond := some uptoSmall }

/-- 'drosslaw42.TractableErrors', WHERE WHAT IT READS IS OF BULK AT MOST 1048576: true; the input reads as it did. -/
def tractableErrorsUptoRow : OpenClaim := { program := "ytbemcminbfhakabgreatdoor", sum := "1fceeeb917055dbb962c77c8a188c81d63ec211baa0d31e017c78ee651311e38", func := "dross/drosslaw42.TractableErrors", spec := "tractableErrors", inPlace := ["internal/abi.NoEscape"], unfollowed := true, recurses := true, named := ["math/bits.deBruijn32tab"], apart := false, laid := [("math/bits.deBruijn32tab", laid_math_bits_deBruijn32tab)], narrowed := true }
def TractableErrorsUptoSaid : Prop := tractableErrorsUptoRow.holds Tryz.pinned (OpenSpec.upto tractableErrorsSpec)

/-- 'drosslaw42.TractableClear', WHERE WHAT IT READS IS OF BULK AT MOST 1048576: true; the input reads as it did. -/
def tractableClearUptoRow : OpenClaim := { program := "ytbemcminbfhakabgreatdoor", sum := "1fceeeb917055dbb962c77c8a188c81d63ec211baa0d31e017c78ee651311e38", func := "dross/drosslaw42.TractableClear", spec := "tractableClear", inPlace := ["internal/abi.NoEscape"], unfollowed := true, recurses := true, named := ["math/bits.deBruijn32tab"], apart := false, laid := [("math/bits.deBruijn32tab", laid_math_bits_deBruijn32tab)], narrowed := true }
def TractableClearUptoSaid : Prop := tractableClearUptoRow.holds Tryz.pinned (OpenSpec.upto tractableClearSpec)

/-- 'drosslaw42.TractableApply', WHERE WHAT IT READS IS OF BULK AT MOST 1048576: true; the input reads as it did. -/
def tractableApplyUptoRow : OpenClaim := { program := "ytbemcminbfhakabgreatdoor", sum := "1fceeeb917055dbb962c77c8a188c81d63ec211baa0d31e017c78ee651311e38", func := "dross/drosslaw42.TractableApply", spec := "tractableApply", inPlace := ["internal/abi.NoEscape"], unfollowed := true, recurses := true, named := ["math/bits.deBruijn32tab"], apart := false, laid := [("math/bits.deBruijn32tab", laid_math_bits_deBruijn32tab)], narrowed := true }
def TractableApplyUptoSaid : Prop := tractableApplyUptoRow.holds Tryz.pinned (OpenSpec.upto tractableApplySpec)

/-- 'drosslaw42.TractableCheck', WHERE WHAT IT READS IS OF BULK AT MOST 1048576: true; the input reads as it did. -/
def tractableCheckUptoRow : OpenClaim := { program := "ytbemcminbfhakabgreatdoor", sum := "1fceeeb917055dbb962c77c8a188c81d63ec211baa0d31e017c78ee651311e38", func := "dross/drosslaw42.TractableCheck", spec := "tractableCheck", inPlace := ["internal/abi.NoEscape"], unfollowed := true, recurses := true, named := ["math/bits.deBruijn32tab"], apart := false, laid := [("math/bits.deBruijn32tab", laid_math_bits_deBruijn32tab)], narrowed := true }
def TractableCheckUptoSaid : Prop := tractableCheckUptoRow.holds Tryz.pinned (OpenSpec.upto tractableCheckSpec)

end Rows
end Go.Proofs.YtbemcminbfhakabGreatDoor
