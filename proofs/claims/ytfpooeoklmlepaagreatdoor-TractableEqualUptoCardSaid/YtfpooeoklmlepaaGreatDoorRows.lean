/-
  NARROWER THAN 'FOR EVERY INPUT', by the rows' own cells (each row's printed sentence says how): TractableSolve: laid · TractableErrors: laid · TractableEqual: laid · TractableScaled: laid.
  DERIVED. THE GIVEN ROWS OF THIS SEAT. 4 by the template 'for every input the law returns true; each argument reads behind the call as it read before'; 0 by the template 'total and deterministic' (their statements: YtfpooeoklmlepaaGreatDoorTotals.lean).
  GIVEN WITH THE SEED: the statements are not yours to turn. If you find one false, say at which input.
  Laid BY PROGRAM, IN A SANDBOX (cutbox-rows.mjs): the forced cells as the released guide's own fill.sh prints them over the translation d74800baae035ec0… (all of the seat's roots in one cut). By AI agents, Wed Nov 11 2026. No macro, syntax, notation, axiom, sorry.
-/
import Derived.Test.YtfpooeoklmlepaaGreatDoorChecked
import GoSem.Claim
import GoSem.ClaimJoined
import GoSem.ClaimMapViews
import Derived.JoinedTies
import Derived.KernelRfl
namespace Go.Proofs.YtfpooeoklmlepaaGreatDoor
/- THE CELL 'sum', in the pinned program and in every row, IS THE sha256 OF THE DUMP (.gsa) THAT YtfpooeoklmlepaaGreatDoorProg.lean LOADS. Nothing in Lean hashes anything: it is a label: what it is worth is what the hold of that sum in a sandbox is worth. -/
noncomputable def Tryz.pinned : Pinned := { name := "ytfpooeoklmlepaagreatdoor", sum := "d74800baae035ec02ea561ac5beba5fbd8e8f6f810aceaf52948edfccd3f5513", checked := Tryz.checked }
namespace Rows
def none {H : Type} : Left H := { results := [], args := [] }

/- WHAT THE LISTED PACKAGE-LEVEL VARIABLES READ AS WHEN THE CALL BEGINS. Each datum BY PROGRAM (the guide's laid-datum.mjs) off the statement by which the dump's own 'gosem.cut.vars' lays the variable. In a bare row this is a premise. The card (YtfpooeoklmlepaaGreatDoorCards.lean) ties it to the program's text. -/
def laid_math_bits_deBruijn32tab {H : Type} : DataW H := .agg [.lit (.int .u8 0), .lit (.int .u8 1), .lit (.int .u8 28), .lit (.int .u8 2), .lit (.int .u8 29), .lit (.int .u8 14), .lit (.int .u8 24), .lit (.int .u8 3), .lit (.int .u8 30), .lit (.int .u8 22), .lit (.int .u8 20), .lit (.int .u8 15), .lit (.int .u8 25), .lit (.int .u8 17), .lit (.int .u8 4), .lit (.int .u8 8), .lit (.int .u8 31), .lit (.int .u8 27), .lit (.int .u8 13), .lit (.int .u8 23), .lit (.int .u8 21), .lit (.int .u8 19), .lit (.int .u8 16), .lit (.int .u8 7), .lit (.int .u8 26), .lit (.int .u8 12), .lit (.int .u8 18), .lit (.int .u8 6), .lit (.int .u8 11), .lit (.int .u8 5), .lit (.int .u8 10), .lit (.int .u8 9)]

/-- 'drosslaw42.TractableSolve': WHATEVER THE INPUT: true; the input reads as it did. -/
def tractableSolveSpec : ChangeSpec := { name := "tractableSolve", fn := fun _ => fun
  | [d] => { results := [.lit (.bool true)], args := [d] }
  | _ => none }
def tractableSolveRow : OpenClaim := { program := "ytfpooeoklmlepaagreatdoor", sum := "d74800baae035ec02ea561ac5beba5fbd8e8f6f810aceaf52948edfccd3f5513", func := "dross/drosslaw42.TractableSolve", spec := "tractableSolve", inPlace := ["internal/abi.NoEscape"], unfollowed := true, recurses := true, named := ["math/bits.deBruijn32tab"], apart := false, laid := [("math/bits.deBruijn32tab", laid_math_bits_deBruijn32tab)] }
def TractableSolveSaid : Prop := tractableSolveRow.holds Tryz.pinned (OpenSpec.ofChange tractableSolveSpec)

/-- ITS FALSE NEIGHBOUR: 'it returns false'. Refute it at one input. -/
def tractableSolveWrong : ChangeSpec := { name := "tractableSolve", fn := fun _ => fun
  | [d] => { results := [.lit (.bool false)], args := [d] }
  | _ => none }
def TractableSolveWrongFalsely : Prop := tractableSolveRow.holds Tryz.pinned (OpenSpec.ofChange tractableSolveWrong)

/-- 'drosslaw42.TractableErrors': WHATEVER THE INPUT: true; the input reads as it did. -/
def tractableErrorsSpec : ChangeSpec := { name := "tractableErrors", fn := fun _ => fun
  | [d1, d2, d3] => { results := [.lit (.bool true)], args := [d1, d2, d3] }
  | _ => none }
def tractableErrorsRow : OpenClaim := { program := "ytfpooeoklmlepaagreatdoor", sum := "d74800baae035ec02ea561ac5beba5fbd8e8f6f810aceaf52948edfccd3f5513", func := "dross/drosslaw42.TractableErrors", spec := "tractableErrors", inPlace := ["internal/abi.NoEscape"], unfollowed := true, recurses := true, named := ["math/bits.deBruijn32tab"], apart := false, laid := [("math/bits.deBruijn32tab", laid_math_bits_deBruijn32tab)] }
def TractableErrorsSaid : Prop := tractableErrorsRow.holds Tryz.pinned (OpenSpec.ofChange tractableErrorsSpec)

/-- ITS FALSE NEIGHBOUR: 'it returns false'. Refute it at one input. -/
def tractableErrorsWrong : ChangeSpec := { name := "tractableErrors", fn := fun _ => fun
  | [d1, d2, d3] => { results := [.lit (.bool false)], args := [d1, d2, d3] }
  | _ => none }
def TractableErrorsWrongFalsely : Prop := tractableErrorsRow.holds Tryz.pinned (OpenSpec.ofChange tractableErrorsWrong)

/-- 'drosslaw42.TractableEqual': WHATEVER THE INPUT: true; the input reads as it did. -/
def tractableEqualSpec : ChangeSpec := { name := "tractableEqual", fn := fun _ => fun
  | [d] => { results := [.lit (.bool true)], args := [d] }
  | _ => none }
def tractableEqualRow : OpenClaim := { program := "ytfpooeoklmlepaagreatdoor", sum := "d74800baae035ec02ea561ac5beba5fbd8e8f6f810aceaf52948edfccd3f5513", func := "dross/drosslaw42.TractableEqual", spec := "tractableEqual", inPlace := ["internal/abi.NoEscape"], unfollowed := true, recurses := true, named := ["math/bits.deBruijn32tab"], apart := false, laid := [("math/bits.deBruijn32tab", laid_math_bits_deBruijn32tab)] }
def TractableEqualSaid : Prop := tractableEqualRow.holds Tryz.pinned (OpenSpec.ofChange tractableEqualSpec)

/-- ITS FALSE NEIGHBOUR: 'it returns false'. Refute it at one input. -/
def tractableEqualWrong : ChangeSpec := { name := "tractableEqual", fn := fun _ => fun
  | [d] => { results := [.lit (.bool false)], args := [d] }
  | _ => none }
def TractableEqualWrongFalsely : Prop := tractableEqualRow.holds Tryz.pinned (OpenSpec.ofChange tractableEqualWrong)

/-- 'drosslaw42.TractableScaled': WHATEVER THE INPUT: true; the input reads as it did. -/
def tractableScaledSpec : ChangeSpec := { name := "tractableScaled", fn := fun _ => fun
  | [d1, d2] => { results := [.lit (.bool true)], args := [d1, d2] }
  | _ => none }
def tractableScaledRow : OpenClaim := { program := "ytfpooeoklmlepaagreatdoor", sum := "d74800baae035ec02ea561ac5beba5fbd8e8f6f810aceaf52948edfccd3f5513", func := "dross/drosslaw42.TractableScaled", spec := "tractableScaled", inPlace := ["internal/abi.NoEscape"], unfollowed := true, recurses := true, named := ["math/bits.deBruijn32tab"], apart := false, laid := [("math/bits.deBruijn32tab", laid_math_bits_deBruijn32tab)] }
def TractableScaledSaid : Prop := tractableScaledRow.holds Tryz.pinned (OpenSpec.ofChange tractableScaledSpec)

/-- ITS FALSE NEIGHBOUR: 'it returns false'. Refute it at one input. -/
def tractableScaledWrong : ChangeSpec := { name := "tractableScaled", fn := fun _ => fun
  | [d1, d2] => { results := [.lit (.bool false)], args := [d1, d2] }
  | _ => none }
def TractableScaledWrongFalsely : Prop := tractableScaledRow.holds Tryz.pinned (OpenSpec.ofChange tractableScaledWrong)

/- THE SECOND FORM. 'bulk': how many values and letters a reading holds, each counted each time it is reached (what is shared counts as often as it is met; a slice's spare places count too). A statement '..UptoSaid' is the law's where the arguments, and the package variables that the reading takes, are together of bulk at most 1048576: NARROWER than '..Said'. Prove '..Said' where nothing that the law and all that it calls make is longer than what came in: it says more and counts as full. Else prove '..UptoSaid'. A law counts once. -/
mutual
def uptoBulk {H : Type} : DataW H → Nat
  | .lit (.string bytes) => bytes.length + 1
  | .lit _ => 1
  | .nil => 1
  | .ptr d => uptoBulk d + 1
  | .slice elems spare => uptoBulkAll elems + uptoBulkAll spare + 1
  | .agg parts => uptoBulkAll parts + 1
  | .iface _ d => uptoBulk d + 1
  | .map entries => uptoBulkEntries entries + 1
  | .held _ => 1
def uptoBulkAll {H : Type} : List (DataW H) → Nat
  | [] => 0
  | d :: r => uptoBulk d + uptoBulkAll r
def uptoBulkEntries {H : Type} : List (Lit × DataW H) → Nat
  | [] => 0
  | x :: r => uptoBulkEntry x + uptoBulkEntries r
def uptoBulkEntry {H : Type} : Lit × DataW H → Nat
  | (.string bytes, d) => bytes.length + uptoBulk d + 1
  | (_, d) => uptoBulk d + 1
 end
def uptoSmall : (H : Type) → List (DataW H) → Bool := fun _ ds => decide (uptoBulkAll ds ≤ 1048576)
def OpenSpec.upto (s : _root_.Go.ChangeSpec) : _root_.Go.OpenSpec := { _root_.Go.OpenSpec.ofChange s with cond := some uptoSmall }

/-- 'drosslaw42.TractableSolve', WHERE WHAT IT READS IS OF BULK AT MOST 1048576: true; the input reads as it did. -/
def tractableSolveUptoRow : OpenClaim := { program := "ytfpooeoklmlepaagreatdoor", sum := "d74800baae035ec02ea561ac5beba5fbd8e8f6f810aceaf52948edfccd3f5513", func := "dross/drosslaw42.TractableSolve", spec := "tractableSolve", inPlace := ["internal/abi.NoEscape"], unfollowed := true, recurses := true, named := ["math/bits.deBruijn32tab"], apart := false, laid := [("math/bits.deBruijn32tab", laid_math_bits_deBruijn32tab)], narrowed := true }
def TractableSolveUptoSaid : Prop := tractableSolveUptoRow.holds Tryz.pinned (OpenSpec.upto tractableSolveSpec)

/-- 'drosslaw42.TractableErrors', WHERE WHAT IT READS IS OF BULK AT MOST 1048576: true; the input reads as it did. -/
def tractableErrorsUptoRow : OpenClaim := { program := "ytfpooeoklmlepaagreatdoor", sum := "d74800baae035ec02ea561ac5beba5fbd8e8f6f810aceaf52948edfccd3f5513", func := "dross/drosslaw42.TractableErrors", spec := "tractableErrors", inPlace := ["internal/abi.NoEscape"], unfollowed := true, recurses := true, named := ["math/bits.deBruijn32tab"], apart := false, laid := [("math/bits.deBruijn32tab", laid_math_bits_deBruijn32tab)], narrowed := true }
def TractableErrorsUptoSaid : Prop := tractableErrorsUptoRow.holds Tryz.pinned (OpenSpec.upto tractableErrorsSpec)

/-- 'drosslaw42.TractableEqual', WHERE WHAT IT READS IS OF BULK AT MOST 1048576: true; the input reads as it did. -/
def tractableEqualUptoRow : OpenClaim := { program := "ytfpooeoklmlepaagreatdoor", sum := "d74800baae035ec02ea561ac5beba5fbd8e8f6f810aceaf52948edfccd3f5513", func := "dross/drosslaw42.TractableEqual", spec := "tractableEqual", inPlace := ["internal/abi.NoEscape"], unfollowed := true, recurses := true, named := ["math/bits.deBruijn32tab"], apart := false, laid := [("math/bits.deBruijn32tab", laid_math_bits_deBruijn32tab)], narrowed := true }
def TractableEqualUptoSaid : Prop := tractableEqualUptoRow.holds Tryz.pinned (OpenSpec.upto tractableEqualSpec)

/-- 'drosslaw42.TractableScaled', WHERE WHAT IT READS IS OF BULK AT MOST 1048576: true; the input reads as it did. -/
def tractableScaledUptoRow : OpenClaim := { program := "ytfpooeoklmlepaagreatdoor", sum := "d74800baae035ec02ea561ac5beba5fbd8e8f6f810aceaf52948edfccd3f5513", func := "dross/drosslaw42.TractableScaled", spec := "tractableScaled", inPlace := ["internal/abi.NoEscape"], unfollowed := true, recurses := true, named := ["math/bits.deBruijn32tab"], apart := false, laid := [("math/bits.deBruijn32tab", laid_math_bits_deBruijn32tab)], narrowed := true }
def TractableScaledUptoSaid : Prop := tractableScaledUptoRow.holds Tryz.pinned (OpenSpec.upto tractableScaledSpec)

end Rows
end Go.Proofs.YtfpooeoklmlepaaGreatDoor
