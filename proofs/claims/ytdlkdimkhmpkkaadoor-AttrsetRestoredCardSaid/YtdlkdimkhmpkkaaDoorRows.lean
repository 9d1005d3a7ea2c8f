/-
  NARROWER THAN 'FOR EVERY INPUT', by the rows' own cells (each row's printed sentence says how): AttrsetOf: laid · AttrsetRestored: laid · AttrsetOrder: laid · AttrsetSubsets: laid · AttrsetLevel: laid · AttrsetLevels: laid · AttrsetMinimal: laid · AttrsetNames: laid · AttrsetNamed: laid.
  DERIVED. THE GIVEN ROWS OF THIS SEAT. 9 by the template 'for every input the law returns true; each argument reads behind the call as it read before'; 0 by the template 'total and deterministic' (their statements: YtdlkdimkhmpkkaaDoorTotals.lean).
  GIVEN WITH THE SEED: the statements are not yours to turn. If you find one false, say at which input.
  Laid BY PROGRAM, IN A SANDBOX (cutbox-rows.mjs): the forced cells as the released guide's own fill.sh prints them over the translation b07079a64bdc95eb… (all of the seat's roots in one cut). By AI agents, Wed Nov 11 2026. No macro, syntax, notation, axiom, sorry.
-/
import Derived.Test.YtdlkdimkhmpkkaaDoorChecked
import GoSem.PinnedTables
import GoSem.Claim
import GoSem.ClaimJoined
import GoSem.ClaimMapViews
import Derived.JoinedTies
import Derived.KernelRfl
namespace Go.Proofs.YtdlkdimkhmpkkaaDoor
/- THE CELL 'sum', in the pinned program and in every row, IS THE sha256 OF THE DUMP (.gsa) THAT YtdlkdimkhmpkkaaDoorProg.lean LOADS. Nothing in Lean hashes anything: it is a label: what it is worth is what the hold of that sum in a sandbox is worth. -/
noncomputable def Tryd.pinned : Pinned := { name := "ytdlkdimkhmpkkaadoor", sum := "b07079a64bdc95ebde668f5ffb1fb4f54ba6de56c4b770be680a2ae804081d51", checked := Tryd.checked }
namespace Rows
def none {H : Type} : Left H := { results := [], args := [] }

/- WHAT THE LISTED PACKAGE-LEVEL VARIABLES READ AS WHEN THE CALL BEGINS. Each datum BY PROGRAM (the guide's laid-datum.mjs) off the statement by which the dump's own 'gosem.cut.vars' lays the variable. In a bare row this is a premise. The card (YtdlkdimkhmpkkaaDoorCards.lean) ties it to the program's text. -/
def laid_math_bits_deBruijn32tab {H : Type} : DataW H := .agg [.lit (.int .u8 0), .lit (.int .u8 1), .lit (.int .u8 28), .lit (.int .u8 2), .lit (.int .u8 29), .lit (.int .u8 14), .lit (.int .u8 24), .lit (.int .u8 3), .lit (.int .u8 30), .lit (.int .u8 22), .lit (.int .u8 20), .lit (.int .u8 15), .lit (.int .u8 25), .lit (.int .u8 17), .lit (.int .u8 4), .lit (.int .u8 8), .lit (.int .u8 31), .lit (.int .u8 27), .lit (.int .u8 13), .lit (.int .u8 23), .lit (.int .u8 21), .lit (.int .u8 19), .lit (.int .u8 16), .lit (.int .u8 7), .lit (.int .u8 26), .lit (.int .u8 12), .lit (.int .u8 18), .lit (.int .u8 6), .lit (.int .u8 11), .lit (.int .u8 5), .lit (.int .u8 10), .lit (.int .u8 9)]
def laid_unicode_utf8_acceptRanges {H : Type} : DataW H := .agg [.agg [.lit (.int .u8 128), .lit (.int .u8 191)], .agg [.lit (.int .u8 160), .lit (.int .u8 191)], .agg [.lit (.int .u8 128), .lit (.int .u8 159)], .agg [.lit (.int .u8 144), .lit (.int .u8 191)], .agg [.lit (.int .u8 128), .lit (.int .u8 143)], .agg [.lit (.int .u8 0), .lit (.int .u8 0)], .agg [.lit (.int .u8 0), .lit (.int .u8 0)], .agg [.lit (.int .u8 0), .lit (.int .u8 0)], .agg [.lit (.int .u8 0), .lit (.int .u8 0)], .agg [.lit (.int .u8 0), .lit (.int .u8 0)], .agg [.lit (.int .u8 0), .lit (.int .u8 0)], .agg [.lit (.int .u8 0), .lit (.int .u8 0)], .agg [.lit (.int .u8 0), .lit (.int .u8 0)], .agg [.lit (.int .u8 0), .lit (.int .u8 0)], .agg [.lit (.int .u8 0), .lit (.int .u8 0)], .agg [.lit (.int .u8 0), .lit (.int .u8 0)]]
/-- One of Go's own tables, pinned by name: the form's constant. -/
def laid_unicode_utf8_first : DataW Unit := Go.Pinned.utf8First

/-- 'drosslaw02.AttrsetOf': WHATEVER THE INPUT: true; the input reads as it did. -/
def attrsetOfSpec : ChangeSpec := { name := "attrsetOf", fn := fun _ => fun
  | [d1, d2] => { results := [.lit (.bool true)], args := [d1, d2] }
  | _ => none }
def attrsetOfRow : OpenClaim := { program := "ytdlkdimkhmpkkaadoor", sum := "b07079a64bdc95ebde668f5ffb1fb4f54ba6de56c4b770be680a2ae804081d51", func := "dross/drosslaw02.AttrsetOf", spec := "attrsetOf", inPlace := ["internal/abi.NoEscape", "internal/bytealg.MakeNoZero", "internal/bytealg.CountString", "internal/bytealg.IndexByteString", "internal/bytealg.IndexString"], unfollowed := true, recurses := true, named := ["math/bits.deBruijn32tab", "unicode/utf8.first", "unicode/utf8.acceptRanges", "internal/bytealg.MaxLen"], apart := false, laid := [("math/bits.deBruijn32tab", laid_math_bits_deBruijn32tab), ("unicode/utf8.acceptRanges", laid_unicode_utf8_acceptRanges), ("unicode/utf8.first", laid_unicode_utf8_first)] }
def AttrsetOfSaid : Prop := attrsetOfRow.holds Tryd.pinned (OpenSpec.ofChange attrsetOfSpec)

/-- ITS FALSE NEIGHBOUR: 'it returns false'. Refute it at one input. -/
def attrsetOfWrong : ChangeSpec := { name := "attrsetOf", fn := fun _ => fun
  | [d1, d2] => { results := [.lit (.bool false)], args := [d1, d2] }
  | _ => none }
def AttrsetOfWrongFalsely : Prop := attrsetOfRow.holds Tryd.pinned (OpenSpec.ofChange attrsetOfWrong)

/-- 'drosslaw02.AttrsetRestored': WHATEVER THE INPUT: true; the input reads as it did. -/
def attrsetRestoredSpec : ChangeSpec := { name := "attrsetRestored", fn := fun _ => fun
  | [d1, d2] => { results := [.lit (.bool true)], args := [d1, d2] }
  | _ => none }
def attrsetRestoredRow : OpenClaim := { program := "ytdlkdimkhmpkkaadoor", sum := "b07079a64bdc95ebde668f5ffb1fb4f54ba6de56c4b770be680a2ae804081d51", func := "dross/drosslaw02.AttrsetRestored", spec := "attrsetRestored", inPlace := ["internal/abi.NoEscape", "internal/bytealg.MakeNoZero", "internal/bytealg.CountString", "internal/bytealg.IndexByteString", "internal/bytealg.IndexString"], unfollowed := true, recurses := true, named := ["math/bits.deBruijn32tab", "unicode/utf8.first", "unicode/utf8.acceptRanges", "internal/bytealg.MaxLen"], apart := false, laid := [("math/bits.deBruijn32tab", laid_math_bits_deBruijn32tab), ("unicode/utf8.acceptRanges", laid_unicode_utf8_acceptRanges), ("unicode/utf8.first", laid_unicode_utf8_first)] }
def AttrsetRestoredSaid : Prop := attrsetRestoredRow.holds Tryd.pinned (OpenSpec.ofChange attrsetRestoredSpec)

/-- ITS FALSE NEIGHBOUR: 'it returns false'. Refute it at one input. -/
def attrsetRestoredWrong : ChangeSpec := { name := "attrsetRestored", fn := fun _ => fun
  | [d1, d2] => { results := [.lit (.bool false)], args := [d1, d2] }
  | _ => none }
def AttrsetRestoredWrongFalsely : Prop := attrsetRestoredRow.holds Tryd.pinned (OpenSpec.ofChange attrsetRestoredWrong)

/-- 'drosslaw02.AttrsetOrder': WHATEVER THE INPUT: true; the input reads as it did. -/
def attrsetOrderSpec : ChangeSpec := { name := "attrsetOrder", fn := fun _ => fun
  | [d] => { results := [.lit (.bool true)], args := [d] }
  | _ => none }
def attrsetOrderRow : OpenClaim := { program := "ytdlkdimkhmpkkaadoor", sum := "b07079a64bdc95ebde668f5ffb1fb4f54ba6de56c4b770be680a2ae804081d51", func := "dross/drosslaw02.AttrsetOrder", spec := "attrsetOrder", inPlace := ["internal/abi.NoEscape", "internal/bytealg.MakeNoZero", "internal/bytealg.CountString", "internal/bytealg.IndexByteString", "internal/bytealg.IndexString"], unfollowed := true, recurses := true, named := ["math/bits.deBruijn32tab", "unicode/utf8.first", "unicode/utf8.acceptRanges", "internal/bytealg.MaxLen"], apart := false, laid := [("math/bits.deBruijn32tab", laid_math_bits_deBruijn32tab), ("unicode/utf8.acceptRanges", laid_unicode_utf8_acceptRanges), ("unicode/utf8.first", laid_unicode_utf8_first)] }
def AttrsetOrderSaid : Prop := attrsetOrderRow.holds Tryd.pinned (OpenSpec.ofChange attrsetOrderSpec)

/-- ITS FALSE NEIGHBOUR: 'it returns false'. Refute it at one input. -/
def attrsetOrderWrong : ChangeSpec := { name := "attrsetOrder", fn := fun _ => fun
  | [d] => { results := [.lit (.bool false)], args := [d] }
  | _ => none }
def AttrsetOrderWrongFalsely : Prop := attrsetOrderRow.holds Tryd.pinned (OpenSpec.ofChange attrsetOrderWrong)

/-- 'drosslaw02.AttrsetSubsets': WHATEVER THE INPUT: true; the input reads as it did. -/
def attrsetSubsetsSpec : ChangeSpec := { name := "attrsetSubsets", fn := fun _ => fun
  | [d] => { results := [.lit (.bool true)], args := [d] }
  | _ => none }
def attrsetSubsetsRow : OpenClaim := { program := "ytdlkdimkhmpkkaadoor", sum := "b07079a64bdc95ebde668f5ffb1fb4f54ba6de56c4b770be680a2ae804081d51", func := "dross/drosslaw02.AttrsetSubsets", spec := "attrsetSubsets", inPlace := ["internal/abi.NoEscape", "internal/bytealg.MakeNoZero", "internal/bytealg.CountString", "internal/bytealg.IndexByteString", "internal/bytealg.IndexString"], unfollowed := true, recurses := true, named := ["math/bits.deBruijn32tab", "unicode/utf8.first", "unicode/utf8.acceptRanges", "internal/bytealg.MaxLen"], apart := false, laid := [("math/bits.deBruijn32tab", laid_math_bits_deBruijn32tab), ("unicode/utf8.acceptRanges", laid_unicode_utf8_acceptRanges), ("unicode/utf8.first", laid_unicode_utf8_first)] }
def AttrsetSubsetsSaid : Prop := attrsetSubsetsRow.holds Tryd.pinned (OpenSpec.ofChange attrsetSubsetsSpec)

/-- ITS FALSE NEIGHBOUR: 'it returns false'. Refute it at one input. -/
def attrsetSubsetsWrong : ChangeSpec := { name := "attrsetSubsets", fn := fun _ => fun
  | [d] => { results := [.lit (.bool false)], args := [d] }
  | _ => none }
def AttrsetSubsetsWrongFalsely : Prop := attrsetSubsetsRow.holds Tryd.pinned (OpenSpec.ofChange attrsetSubsetsWrong)

/-- 'drosslaw02.AttrsetLevel': WHATEVER THE INPUT: true; the input reads as it did. -/
def attrsetLevelSpec : ChangeSpec := { name := "attrsetLevel", fn := fun _ => fun
  | [d1, d2] => { results := [.lit (.bool true)], args := [d1, d2] }
  | _ => none }
def attrsetLevelRow : OpenClaim := { program := "ytdlkdimkhmpkkaadoor", sum := "b07079a64bdc95ebde668f5ffb1fb4f54ba6de56c4b770be680a2ae804081d51", func := "dross/drosslaw02.AttrsetLevel", spec := "attrsetLevel", inPlace := ["internal/abi.NoEscape", "internal/bytealg.MakeNoZero", "internal/bytealg.CountString", "internal/bytealg.IndexByteString", "internal/bytealg.IndexString"], unfollowed := true, recurses := true, named := ["math/bits.deBruijn32tab", "unicode/utf8.first", "unicode/utf8.acceptRanges", "internal/bytealg.MaxLen"], apart := false, laid := [("math/bits.deBruijn32tab", laid_math_bits_deBruijn32tab), ("unicode/utf8.acceptRanges", laid_unicode_utf8_acceptRanges), ("unicode/utf8.first", laid_unicode_utf8_first)] }
def AttrsetLevelSaid : Prop := attrsetLevelRow.holds Tryd.pinned (OpenSpec.ofChange attrsetLevelSpec)

/-- ITS FALSE NEIGHBOUR: 'it returns false'. Refute it at one input. -/
def attrsetLevelWrong : ChangeSpec := { name := "attrsetLevel", fn := fun _ => fun
  | [d1, d2] => { results := [.lit (.bool false)], args := [d1, d2] }
  | _ => none }
def AttrsetLevelWrongFalsely : Prop := attrsetLevelRow.holds Tryd.pinned (OpenSpec.ofChange attrsetLevelWrong)

/-- 'drosslaw02.AttrsetLevels': WHATEVER THE INPUT: true; the input reads as it did. -/
def attrsetLevelsSpec : ChangeSpec := { name := "attrsetLevels", fn := fun _ => fun
  | [d] => { results := [.lit (.bool true)], args := [d] }
  | _ => none }
def attrsetLevelsRow : OpenClaim := { program := "ytdlkdimkhmpkkaadoor", sum := "b07079a64bdc95ebde668f5ffb1fb4f54ba6de56c4b770be680a2ae804081d51", func := "dross/drosslaw02.AttrsetLevels", spec := "attrsetLevels", inPlace := ["internal/abi.NoEscape", "internal/bytealg.MakeNoZero", "internal/bytealg.CountString", "internal/bytealg.IndexByteString", "internal/bytealg.IndexString"], unfollowed := true, recurses := true, named := ["math/bits.deBruijn32tab", "unicode/utf8.first", "unicode/utf8.acceptRanges", "internal/bytealg.MaxLen"], apart := false, laid := [("math/bits.deBruijn32tab", laid_math_bits_deBruijn32tab), ("unicode/utf8.acceptRanges", laid_unicode_utf8_acceptRanges), ("unicode/utf8.first", laid_unicode_utf8_first)] }
def AttrsetLevelsSaid : Prop := attrsetLevelsRow.holds Tryd.pinned (OpenSpec.ofChange attrsetLevelsSpec)

/-- ITS FALSE NEIGHBOUR: 'it returns false'. Refute it at one input. -/
def attrsetLevelsWrong : ChangeSpec := { name := "attrsetLevels", fn := fun _ => fun
  | [d] => { results := [.lit (.bool false)], args := [d] }
  | _ => none }
def AttrsetLevelsWrongFalsely : Prop := attrsetLevelsRow.holds Tryd.pinned (OpenSpec.ofChange attrsetLevelsWrong)

/-- 'drosslaw02.AttrsetMinimal': WHATEVER THE INPUT: true; the input reads as it did. -/
def attrsetMinimalSpec : ChangeSpec := { name := "attrsetMinimal", fn := fun _ => fun
  | [d] => { results := [.lit (.bool true)], args := [d] }
  | _ => none }
def attrsetMinimalRow : OpenClaim := { program := "ytdlkdimkhmpkkaadoor", sum := "b07079a64bdc95ebde668f5ffb1fb4f54ba6de56c4b770be680a2ae804081d51", func := "dross/drosslaw02.AttrsetMinimal", spec := "attrsetMinimal", inPlace := ["internal/abi.NoEscape", "internal/bytealg.MakeNoZero", "internal/bytealg.CountString", "internal/bytealg.IndexByteString", "internal/bytealg.IndexString"], unfollowed := true, recurses := true, named := ["math/bits.deBruijn32tab", "unicode/utf8.first", "unicode/utf8.acceptRanges", "internal/bytealg.MaxLen"], apart := false, laid := [("math/bits.deBruijn32tab", laid_math_bits_deBruijn32tab), ("unicode/utf8.acceptRanges", laid_unicode_utf8_acceptRanges), ("unicode/utf8.first", laid_unicode_utf8_first)] }
def AttrsetMinimalSaid : Prop := attrsetMinimalRow.holds Tryd.pinned (OpenSpec.ofChange attrsetMinimalSpec)

/-- ITS FALSE NEIGHBOUR: 'it returns false'. Refute it at one input. -/
def attrsetMinimalWrong : ChangeSpec := { name := "attrsetMinimal", fn := fun _ => fun
  | [d] => { results := [.lit (.bool false)], args := [d] }
  | _ => none }
def AttrsetMinimalWrongFalsely : Prop := attrsetMinimalRow.holds Tryd.pinned (OpenSpec.ofChange attrsetMinimalWrong)

/-- 'drosslaw02.AttrsetNames': WHATEVER THE INPUT: true; the input reads as it did. -/
def attrsetNamesSpec : ChangeSpec := { name := "attrsetNames", fn := fun _ => fun
  | [d1, d2] => { results := [.lit (.bool true)], args := [d1, d2] }
  | _ => none }
def attrsetNamesRow : OpenClaim := { program := "ytdlkdimkhmpkkaadoor", sum := "b07079a64bdc95ebde668f5ffb1fb4f54ba6de56c4b770be680a2ae804081d51", func := "dross/drosslaw02.AttrsetNames", spec := "attrsetNames", inPlace := ["internal/abi.NoEscape", "internal/bytealg.MakeNoZero", "internal/bytealg.CountString", "internal/bytealg.IndexByteString", "internal/bytealg.IndexString"], unfollowed := true, recurses := true, named := ["math/bits.deBruijn32tab", "unicode/utf8.first", "unicode/utf8.acceptRanges", "internal/bytealg.MaxLen"], apart := false, laid := [("math/bits.deBruijn32tab", laid_math_bits_deBruijn32tab), ("unicode/utf8.acceptRanges", laid_unicode_utf8_acceptRanges), ("unicode/utf8.first", laid_unicode_utf8_first)] }
def AttrsetNamesSaid : Prop := attrsetNamesRow.holds Tryd.pinned (OpenSpec.ofChange attrsetNamesSpec)

/-- ITS FALSE NEIGHBOUR: 'it returns false'. Refute it at one input. -/
def attrsetNamesWrong : ChangeSpec := { name := "attrsetNames", fn := fun _ => fun
  | [d1, d2] => { results := [.lit (.bool false)], args := [d1, d2] }
  | _ => none }
def AttrsetNamesWrongFalsely : Prop := attrsetNamesRow.holds Tryd.pinned (OpenSpec.ofChange attrsetNamesWrong)

/-- 'drosslaw02.AttrsetNamed': WHATEVER THE INPUT: true; the input reads as it did. -/
def attrsetNamedSpec : ChangeSpec := { name := "attrsetNamed", fn := fun _ => fun
  | [d1, d2] => { results := [.lit (.bool true)], args := [d1, d2] }
  | _ => none }
def attrsetNamedRow : OpenClaim := { program := "ytdlkdimkhmpkkaadoor", sum := "b07079a64bdc95ebde668f5ffb1fb4f54ba6de56c4b770be680a2ae804081d51", func := "dross/drosslaw02.AttrsetNamed", spec := "attrsetNamed", inPlace := ["internal/abi.NoEscape", "internal/bytealg.MakeNoZero", "internal/bytealg.CountString", "internal/bytealg.IndexByteString", "internal/bytealg.IndexString"], unfollowed := true, recurses := true, named := ["math/bits.deBruijn32tab", "unicode/utf8.first", "unicode/utf8.acceptRanges", "internal/bytealg.MaxLen"], apart := false, laid := [("math/bits.deBruijn32tab", laid_math_bits_deBruijn32tab), ("unicode/utf8.acceptRanges", laid_unicode_utf8_acceptRanges), ("unicode/utf8.first", laid_unicode_utf8_first)] }
def AttrsetNamedSaid : Prop := attrsetNamedRow.holds Tryd.pinned (OpenSpec.ofChange attrsetNamedSpec)

/-- ITS FALSE NEIGHBOUR: 'it returns false'. Refute it at one input. -/
def attrsetNamedWrong : ChangeSpec := { name := "attrsetNamed", fn := fun _ => fun
  | [d1, d2] => { results := [.lit (.bool false)], args := [d1, d2] }
  | _ => none }
def AttrsetNamedWrongFalsely : Prop := attrsetNamedRow.holds Tryd.pinned (OpenSpec.ofChange attrsetNamedWrong)

/- THE SECOND FORM. 'bulk': how many values and letters a reading holds, each counted each time it is reached (what is shared counts as often as it is met; a slice's spare places count too). A statement '..UptoSaid' is the law's where the arguments, and the package variables that the reading takes, are together of bulk at most 1048576: NARROWER than '..Said'. Prove '..Said' where nothing that the law and all that it calls make is longer than what came in: it says more and counts as full. Else prove '..UptoSaid'. A law counts once. -/
mutual
def uptoBulk {H : Type} : DataW H → Nat
  | .lit (.string bytes) => bytes.length + 1
  | .lit _ => 1
  | .nil => 1
  | .ptr d => uptoBulk d + 1
  | .slice elems spare => uptoBulkAll elems + uptoBulkAll spare + 1
  | .agg parts => uptoBulkAll parts + 1
  | .iface _ d => uptoBulk d + 1
  | .map entries => uptoBulkEntries entries + 1
  | .held _ => 1
def uptoBulkAll {H : Type} : List (DataW H) → Nat
  | [] => 0
  | d :: r => uptoBulk d + uptoBulkAll r
def uptoBulkEntries {H : Type} : List (Lit × DataW H) → Nat
  | [] => 0
  | x :: r => uptoBulkEntry x + uptoBulkEntries r
def uptoBulkEntry {H : Type} : Lit × DataW H → Nat
  | (.string bytes, d) => bytes.length + uptoBulk d + 1
  | (_, d) => uptoBulk d + 1
 end
def uptoSmall : (H : Type) → List (DataW H) → Bool := fun _ ds => decide (uptoBulkAll ds ≤ 1048576)
def OpenSpec.upto (s : _root_.Go.ChangeSpec) : _root_.Go.OpenSpec := { _root_.Go.OpenSpec.ofChange s with cond := some uptoSmall }

/-- 'drosslaw02.AttrsetOf', WHERE WHAT IT READS IS OF BULK AT MOST 1048576: true; the input reads as it did. -/
def attrsetOfUptoRow : OpenClaim := { program := "ytdlkdimkhmpkkaadoor", sum := "b07079a64bdc95ebde668f5ffb1fb4f54ba6de56c4b770be680a2ae804081d51", func := "dross/drosslaw02.AttrsetOf", spec := "attrsetOf", inPlace := ["internal/abi.NoEscape", "internal/bytealg.MakeNoZero", "internal/bytealg.CountString", "internal/bytealg.IndexByteString", "internal/bytealg.IndexString"], unfollowed := true, recurses := true, named := ["math/bits.deBruijn32tab", "unicode/utf8.first", "unicode/utf8.acceptRanges", "internal/bytealg.MaxLen"], apart := false, laid := [("math/bits.deBruijn32tab", laid_math_bits_deBruijn32tab), ("unicode/utf8.acceptRanges", laid_unicode_utf8_acceptRanges), ("unicode/utf8.first", laid_unicode_utf8_first)], narrowed := true }
def AttrsetOfUptoSaid : Prop := attrsetOfUptoRow.holds Tryd.pinned (OpenSpec.upto attrsetOfSpec)

/-- 'drosslaw02.AttrsetRestored', WHERE WHAT IT READS IS OF BULK AT MOST 1048576: true; the input reads as it did. -/
def attrsetRestoredUptoRow : OpenClaim := { program := "ytdlkdimkhmpkkaadoor", sum := "b07079a64bdc95ebde668f5ffb1fb4f54ba6de56c4b770be680a2ae804081d51", func := "dross/drosslaw02.AttrsetRestored", spec := "attrsetRestored", inPlace := ["internal/abi.NoEscape", "internal/bytealg.MakeNoZero", "internal/bytealg.CountString", "internal/bytealg.IndexByteString", "internal/bytealg.IndexString"], unfollowed := true, recurses := true, named := ["math/bits.deBruijn32tab", "unicode/utf8.first", "unicode/utf8.acceptRanges", "internal/bytealg.MaxLen"], apart := false, laid := [("math/bits.deBruijn32tab", laid_math_bits_deBruijn32tab), ("unicode/utf8.acceptRanges", laid_unicode_utf8_acceptRanges), ("unicode/utf8.first", laid_unicode_utf8_first)], narrowed := true }
def AttrsetRestoredUptoSaid : Prop := attrsetRestoredUptoRow.holds Tryd.pinned (OpenSpec.upto attrsetRestoredSpec)

/-- 'drosslaw02.AttrsetOrder', WHERE WHAT IT READS IS OF BULK AT MOST 1048576: true; the input reads as it did. -/
def attrsetOrderUptoRow : OpenClaim := { program := "ytdlkdimkhmpkkaadoor", sum := "b07079a64bdc95ebde668f5ffb1fb4f54ba6de56c4b770be680a2ae804081d51", func := "dross/drosslaw02.AttrsetOrder", spec := "attrsetOrder", inPlace := ["internal/abi.NoEscape", "internal/bytealg.MakeNoZero", "internal/bytealg.CountString", "internal/bytealg.IndexByteString", "internal/bytealg.IndexString"], unfollowed := true, recurses := true, named := ["math/bits.deBruijn32tab", "unicode/utf8.first", "unicode/utf8.acceptRanges", "internal/bytealg.MaxLen"], apart := false, laid := [("math/bits.deBruijn32tab", laid_math_bits_deBruijn32tab), ("unicode/utf8.acceptRanges", laid_unicode_utf8_acceptRanges), ("unicode/utf8.first", laid_unicode_utf8_first)], narrowed := true }
def AttrsetOrderUptoSaid : Prop := attrsetOrderUptoRow.holds Tryd.pinned (OpenSpec.upto attrsetOrderSpec)

/-- 'drosslaw02.AttrsetSubsets', WHERE WHAT IT READS IS OF BULK AT MOST 1048576: true; the input reads as it did. -/
def attrsetSubsetsUptoRow : OpenClaim := { program := "ytdlkdimkhmpkkaadoor", sum := "b07079a64bdc95ebde668f5ffb1fb4f54ba6de56c4b770be680a2ae804081d51", func := "dross/drosslaw02.AttrsetSubsets", spec := "attrsetSubsets", inPlace := ["internal/abi.NoEscape", "internal/bytealg.MakeNoZero", "internal/bytealg.CountString", "internal/bytealg.IndexByteString", "internal/bytealg.IndexString"], unfollowed := true, recurses := true, named := ["math/bits.deBruijn32tab", "unicode/utf8.first", "unicode/utf8.acceptRanges", "internal/bytealg.MaxLen"], apart := false, laid := [("math/bits.deBruijn32tab", laid_math_bits_deBruijn32tab), ("unicode/utf8.acceptRanges", laid_unicode_utf8_acceptRanges), ("unicode/utf8.first", laid_unicode_utf8_first)], narrowed := true }
def AttrsetSubsetsUptoSaid : Prop := attrsetSubsetsUptoRow.holds Tryd.pinned (OpenSpec.upto attrsetSubsetsSpec)

/-- 'drosslaw02.AttrsetLevel', WHERE WHAT IT READS IS OF BULK AT MOST 1048576: true; the input reads as it did. -/
def attrsetLevelUptoRow : OpenClaim := { program := "ytdlkdimkhmpkkaadoor", sum := "b07079a64bdc95ebde668f5ffb1fb4f54ba6de56c4b770be680a2ae804081d51", func := "dross/drosslaw02.AttrsetLevel", spec := "attrsetLevel", inPlace := ["internal/abi.NoEscape", "internal/bytealg.MakeNoZero", "internal/bytealg.CountString", "internal/bytealg.IndexByteString", "internal/bytealg.IndexString"], unfollowed := true, recurses := true, named := ["math/bits.deBruijn32tab", "unicode/utf8.first", "unicode/utf8.acceptRanges", "internal/bytealg.MaxLen"], apart := false, laid := [("math/bits.deBruijn32tab", laid_math_bits_deBruijn32tab), ("unicode/utf8.acceptRanges", laid_unicode_utf8_acceptRanges), ("unicode/utf8.first", laid_unicode_utf8_first)], narrowed := true }
def AttrsetLevelUptoSaid : Prop := attrsetLevelUptoRow.holds Tryd.pinned (OpenSpec.upto attrsetLevelSpec)

/-- 'drosslaw02.AttrsetLevels', WHERE WHAT IT READS IS OF BULK AT MOST 1048576: true; the input reads as it did. -/
def attrsetLevelsUptoRow : OpenClaim := { program := "ytdlkdimkhmpkkaadoor", sum := "b07079a64bdc95ebde668f5ffb1fb4f54ba6de56c4b770be680a2ae804081d51", func := "dross/drosslaw02.AttrsetLevels", spec := "attrsetLevels", inPlace := ["internal/abi.NoEscape", "internal/bytealg.MakeNoZero", "internal/bytealg.CountString", "internal/bytealg.IndexByteString", "internal/bytealg.IndexString"], unfollowed := true, recurses := true, named := ["math/bits.deBruijn32tab", "unicode/utf8.first", "unicode/utf8.acceptRanges", "internal/bytealg.MaxLen"], apart := false, laid := [("math/bits.deBruijn32tab", laid_math_bits_deBruijn32tab), ("unicode/utf8.acceptRanges", laid_unicode_utf8_acceptRanges), ("unicode/utf8.first", laid_unicode_utf8_first)], narrowed := true }
def AttrsetLevelsUptoSaid : Prop := attrsetLevelsUptoRow.holds Tryd.pinned (OpenSpec.upto attrsetLevelsSpec)

/-- 'drosslaw02.AttrsetMinimal', WHERE WHAT IT READS IS OF BULK AT MOST 1048576: true; the input reads as it did. -/
def attrsetMinimalUptoRow : OpenClaim := { program := "ytdlkdimkhmpkkaadoor", sum := "b07079a64bdc95ebde668f5ffb1fb4f54ba6de56c4b770be680a2ae804081d51", func := "dross/drosslaw02.AttrsetMinimal", spec := "attrsetMinimal", inPlace := ["internal/abi.NoEscape", "internal/bytealg.MakeNoZero", "internal/bytealg.CountString", "internal/bytealg.IndexByteString", "internal/bytealg.IndexString"], unfollowed := true, recurses := true, named := ["math/bits.deBruijn32tab", "unicode/utf8.first", "unicode/utf8.acceptRanges", "internal/bytealg.MaxLen"], apart := false, laid := [("math/bits.deBruijn32tab", laid_math_bits_deBruijn32tab), ("unicode/utf8.acceptRanges", laid_unicode_utf8_acceptRanges), ("unicode/utf8.first", laid_unicode_utf8_first)], narrowed := true }
def AttrsetMinimalUptoSaid : Prop := attrsetMinimalUptoRow.holds Tryd.pinned (OpenSpec.upto attrsetMinimalSpec)

/-- 'drosslaw02.AttrsetNames', WHERE WHAT IT READS IS OF BULK AT MOST 1048576: true; the input reads as it did. -/
def attrsetNamesUptoRow : OpenClaim := { program := "ytdlkdimkhmpkkaadoor", sum := "b07079a64bdc95ebde668f5ffb1fb4f54ba6de56c4b770be680a2ae804081d51", func := "dross/drosslaw02.AttrsetNames", spec := "attrsetNames", inPlace := ["internal/abi.NoEscape", "internal/bytealg.MakeNoZero", "internal/bytealg.CountString", "internal/bytealg.IndexByteString", "internal/bytealg.IndexString"], unfollowed := true, recurses := true, named := ["math/bits.deBruijn32tab", "unicode/utf8.first", "unicode/utf8.acceptRanges", "internal/bytealg.MaxLen"], apart := false, laid := [("math/bits.deBruijn32tab", laid_math_bits_deBruijn32tab), ("unicode/utf8.acceptRanges", laid_unicode_utf8_acceptRanges), ("unicode/utf8.first", laid_unicode_utf8_first)], narrowed := true }
def AttrsetNamesUptoSaid : Prop := attrsetNamesUptoRow.holds Tryd.pinned (OpenSpec.upto attrsetNamesSpec)

/-- 'drosslaw02.AttrsetNamed', WHERE WHAT IT READS IS OF BULK AT MOST 1048576: true; the input reads as it did. -/
def attrsetNamedUptoRow : OpenClaim := { program := "ytdlkdimkhmpkkaadoor", sum := "b07079a64bdc95ebde668f5ffb1fb4f54ba6de56c4b770be680a2ae804081d51", func := "dross/drosslaw02.AttrsetNamed", spec := "attrsetNamed", inPlace := ["internal/abi.NoEscape", "internal/bytealg.MakeNoZero", "internal/bytealg.CountString", "internal/bytealg.IndexByteString", "internal/bytealg.IndexString"], unfollowed := true, recurses := true, named := ["math/bits.deBruijn32tab", "unicode/utf8.first", "unicode/utf8.acceptRanges", "internal/bytealg.MaxLen"], apart := false, laid := [("math/bits.deBruijn32tab", laid_math_bits_deBruijn32tab), ("unicode/utf8.acceptRanges", laid_unicode_utf8_acceptRanges), ("unicode/utf8.first", laid_unicode_utf8_first)], narrowed := true }
def AttrsetNamedUptoSaid : Prop := attrsetNamedUptoRow.holds Tryd.pinned (OpenSpec.upto attrsetNamedSpec)

end Rows
end Go.Proofs.YtdlkdimkhmpkkaaDoor
