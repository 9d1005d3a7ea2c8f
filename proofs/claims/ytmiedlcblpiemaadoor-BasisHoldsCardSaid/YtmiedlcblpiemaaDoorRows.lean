/-
  NARROWER THAN 'FOR EVERY INPUT', by the rows' own cells (each row's printed sentence says how): BasisBasis: laid · BasisClose: laid · BasisBoth: laid · BasisImplies: laid · BasisHolds: laid · BasisSound: laid.
  DERIVED. THE GIVEN ROWS OF THIS SEAT. 6 by the template 'for every input the law returns true; each argument reads behind the call as it read before'; 0 by the template 'total and deterministic' (their statements: YtmiedlcblpiemaaDoorTotals.lean).
  GIVEN WITH THE SEED: the statements are not yours to turn. If you find one false, say at which input.
  Laid BY PROGRAM, IN A SANDBOX (cutbox-rows.mjs): the forced cells as the released guide's own fill.sh prints them over the translation bcbd148a0b904550… (all of the seat's roots in one cut). By AI agents, Wed Nov 11 2026. No macro, syntax, notation, axiom, sorry.
-/
import Derived.Test.YtmiedlcblpiemaaDoorChecked
import GoSem.Claim
import GoSem.ClaimJoined
import GoSem.ClaimMapViews
import Derived.JoinedTies
import Derived.KernelRfl
namespace Go.Proofs.YtmiedlcblpiemaaDoor
/- THE CELL 'sum', in the pinned program and in every row, IS THE sha256 OF THE DUMP (.gsa) THAT YtmiedlcblpiemaaDoorProg.lean LOADS. Nothing in Lean hashes anything: it is a label: what it is worth is what the hold of that sum in a sandbox is worth. -/
noncomputable def Tryd.pinned : Pinned := { name := "ytmiedlcblpiemaadoor", sum := "bcbd148a0b904550d7c2cdb20c7f7133ff24bb5ded613af10baac52d0766b5c7", checked := Tryd.checked }
namespace Rows
def none {H : Type} : Left H := { results := [], args := [] }

/- WHAT THE LISTED PACKAGE-LEVEL VARIABLES READ AS WHEN THE CALL BEGINS. Each datum BY PROGRAM (the guide's laid-datum.mjs) off the statement by which the dump's own 'gosem.cut.vars' lays the variable. In a bare row this is a premise. The card (YtmiedlcblpiemaaDoorCards.lean) ties it to the program's text. -/
def laid_math_bits_deBruijn32tab {H : Type} : DataW H := .agg [.lit (.int .u8 0), .lit (.int .u8 1), .lit (.int .u8 28), .lit (.int .u8 2), .lit (.int .u8 29), .lit (.int .u8 14), .lit (.int .u8 24), .lit (.int .u8 3), .lit (.int .u8 30), .lit (.int .u8 22), .lit (.int .u8 20), .lit (.int .u8 15), .lit (.int .u8 25), .lit (.int .u8 17), .lit (.int .u8 4), .lit (.int .u8 8), .lit (.int .u8 31), .lit (.int .u8 27), .lit (.int .u8 13), .lit (.int .u8 23), .lit (.int .u8 21), .lit (.int .u8 19), .lit (.int .u8 16), .lit (.int .u8 7), .lit (.int .u8 26), .lit (.int .u8 12), .lit (.int .u8 18), .lit (.int .u8 6), .lit (.int .u8 11), .lit (.int .u8 5), .lit (.int .u8 10), .lit (.int .u8 9)]

/-- 'drosslaw13.BasisBasis': WHATEVER THE INPUT: true; the input reads as it did. -/
def basisBasisSpec : ChangeSpec := { name := "basisBasis", fn := fun _ => fun
  | [d1, d2] => { results := [.lit (.bool true)], args := [d1, d2] }
  | _ => none }
def basisBasisRow : OpenClaim := { program := "ytmiedlcblpiemaadoor", sum := "bcbd148a0b904550d7c2cdb20c7f7133ff24bb5ded613af10baac52d0766b5c7", func := "dross/drosslaw13.BasisBasis", spec := "basisBasis", unfollowed := true, recurses := true, named := ["math/bits.deBruijn32tab"], apart := false, laid := [("math/bits.deBruijn32tab", laid_math_bits_deBruijn32tab)] }
def BasisBasisSaid : Prop := basisBasisRow.holds Tryd.pinned (OpenSpec.ofChange basisBasisSpec)

/-- ITS FALSE NEIGHBOUR: 'it returns false'. Refute it at one input. -/
def basisBasisWrong : ChangeSpec := { name := "basisBasis", fn := fun _ => fun
  | [d1, d2] => { results := [.lit (.bool false)], args := [d1, d2] }
  | _ => none }
def BasisBasisWrongFalsely : Prop := basisBasisRow.holds Tryd.pinned (OpenSpec.ofChange basisBasisWrong)

/-- 'drosslaw13.BasisClose': WHATEVER THE INPUT: true; the input reads as it did. -/
def basisCloseSpec : ChangeSpec := { name := "basisClose", fn := fun _ => fun
  | [d1, d2] => { results := [.lit (.bool true)], args := [d1, d2] }
  | _ => none }
def basisCloseRow : OpenClaim := { program := "ytmiedlcblpiemaadoor", sum := "bcbd148a0b904550d7c2cdb20c7f7133ff24bb5ded613af10baac52d0766b5c7", func := "dross/drosslaw13.BasisClose", spec := "basisClose", unfollowed := true, recurses := true, named := ["math/bits.deBruijn32tab"], apart := false, laid := [("math/bits.deBruijn32tab", laid_math_bits_deBruijn32tab)] }
def BasisCloseSaid : Prop := basisCloseRow.holds Tryd.pinned (OpenSpec.ofChange basisCloseSpec)

/-- ITS FALSE NEIGHBOUR: 'it returns false'. Refute it at one input. -/
def basisCloseWrong : ChangeSpec := { name := "basisClose", fn := fun _ => fun
  | [d1, d2] => { results := [.lit (.bool false)], args := [d1, d2] }
  | _ => none }
def BasisCloseWrongFalsely : Prop := basisCloseRow.holds Tryd.pinned (OpenSpec.ofChange basisCloseWrong)

/-- 'drosslaw13.BasisBoth': WHATEVER THE INPUT: true; the input reads as it did. -/
def basisBothSpec : ChangeSpec := { name := "basisBoth", fn := fun _ => fun
  | [d1, d2] => { results := [.lit (.bool true)], args := [d1, d2] }
  | _ => none }
def basisBothRow : OpenClaim := { program := "ytmiedlcblpiemaadoor", sum := "bcbd148a0b904550d7c2cdb20c7f7133ff24bb5ded613af10baac52d0766b5c7", func := "dross/drosslaw13.BasisBoth", spec := "basisBoth", unfollowed := true, recurses := true, named := ["math/bits.deBruijn32tab"], apart := false, laid := [("math/bits.deBruijn32tab", laid_math_bits_deBruijn32tab)] }
def BasisBothSaid : Prop := basisBothRow.holds Tryd.pinned (OpenSpec.ofChange basisBothSpec)

/-- ITS FALSE NEIGHBOUR: 'it returns false'. Refute it at one input. -/
def basisBothWrong : ChangeSpec := { name := "basisBoth", fn := fun _ => fun
  | [d1, d2] => { results := [.lit (.bool false)], args := [d1, d2] }
  | _ => none }
def BasisBothWrongFalsely : Prop := basisBothRow.holds Tryd.pinned (OpenSpec.ofChange basisBothWrong)

/-- 'drosslaw13.BasisImplies': WHATEVER THE INPUT: true; the input reads as it did. -/
def basisImpliesSpec : ChangeSpec := { name := "basisImplies", fn := fun _ => fun
  | [d1, d2] => { results := [.lit (.bool true)], args := [d1, d2] }
  | _ => none }
def basisImpliesRow : OpenClaim := { program := "ytmiedlcblpiemaadoor", sum := "bcbd148a0b904550d7c2cdb20c7f7133ff24bb5ded613af10baac52d0766b5c7", func := "dross/drosslaw13.BasisImplies", spec := "basisImplies", unfollowed := true, recurses := true, named := ["math/bits.deBruijn32tab"], apart := false, laid := [("math/bits.deBruijn32tab", laid_math_bits_deBruijn32tab)] }
def BasisImpliesSaid : Prop := basisImpliesRow.holds Tryd.pinned (OpenSpec.ofChange basisImpliesSpec)

/-- ITS FALSE NEIGHBOUR: 'it returns false'. Refute it at one input. -/
def basisImpliesWrong : ChangeSpec := { name := "basisImplies", fn := fun _ => fun
  | [d1, d2] => { results := [.lit (.bool false)], args := [d1, d2] }
  | _ => none }
def BasisImpliesWrongFalsely : Prop := basisImpliesRow.holds Tryd.pinned (OpenSpec.ofChange basisImpliesWrong)

/-- 'drosslaw13.BasisHolds': WHATEVER THE INPUT: true; the input reads as it did. -/
def basisHoldsSpec : ChangeSpec := { name := "basisHolds", fn := fun _ => fun
  | [d1, d2] => { results := [.lit (.bool true)], args := [d1, d2] }
  | _ => none }
def basisHoldsRow : OpenClaim := { program := "ytmiedlcblpiemaadoor", sum := "bcbd148a0b904550d7c2cdb20c7f7133ff24bb5ded613af10baac52d0766b5c7", func := "dross/drosslaw13.BasisHolds", spec := "basisHolds", unfollowed := true, recurses := true, named := ["math/bits.deBruijn32tab"], apart := false, laid := [("math/bits.deBruijn32tab", laid_math_bits_deBruijn32tab)] }
def BasisHoldsSaid : Prop := basisHoldsRow.holds Tryd.pinned (OpenSpec.ofChange basisHoldsSpec)

/-- ITS FALSE NEIGHBOUR: 'it returns false'. Refute it at one input. -/
def basisHoldsWrong : ChangeSpec := { name := "basisHolds", fn := fun _ => fun
  | [d1, d2] => { results := [.lit (.bool false)], args := [d1, d2] }
  | _ => none }
def BasisHoldsWrongFalsely : Prop := basisHoldsRow.holds Tryd.pinned (OpenSpec.ofChange basisHoldsWrong)

/-- 'drosslaw13.BasisSound': WHATEVER THE INPUT: true; the input reads as it did. -/
def basisSoundSpec : ChangeSpec := { name := "basisSound", fn := fun _ => fun
  | [d1, d2, d3] => { results := [.lit (.bool true)], args := [d1, d2, d3] }
  | _ => none }
def basisSoundRow : OpenClaim := { program := "ytmiedlcblpiemaadoor", sum := "bcbd148a0b904550d7c2cdb20c7f7133ff24bb5ded613af10baac52d0766b5c7", func := "dross/drosslaw13.BasisSound", spec := "basisSound", unfollowed := true, recurses := true, named := ["math/bits.deBruijn32tab"], apart := false, laid := [("math/bits.deBruijn32tab", laid_math_bits_deBruijn32tab)] }
def BasisSoundSaid : Prop := basisSoundRow.holds Tryd.pinned (OpenSpec.ofChange basisSoundSpec)

/-- ITS FALSE NEIGHBOUR: 'it returns false'. Refute it at one input. -/
def basisSoundWrong : ChangeSpec := { name := "basisSound", fn := fun _ => fun
  | [d1, d2, d3] => { results := [.lit (.bool false)], args := [d1, d2, d3] }
  | _ => none }
def BasisSoundWrongFalsely : Prop := basisSoundRow.holds Tryd.pinned (OpenSpec.ofChange basisSoundWrong)

/- THE SECOND FORM. 'bulk': how many values and letters a reading holds, each counted each time it is reached (what is shared counts as often as it is met; a slice's spare places count too). A statement '..UptoSaid' is the law's where the arguments, and the package variables that the reading takes, are together of bulk at most 1048576: NARROWER than '..Said'. Prove '..Said' where nothing that the law and all that it calls make is longer than what came in: it says more and counts as full. Else prove '..UptoSaid'. A law counts once. -/
mutual
def uptoBulk {H : Type} : DataW H → Nat
  | .lit (.string bytes) => bytes.length + 1
  | .lit _ => 1
  | .nil => 1
  | .ptr d => uptoBulk d + 1
  | .slice elems spare => uptoBulkAll elems + uptoBulkAll spare + 1
  | .agg parts => uptoBulkAll parts + 1
  | .iface _ d => uptoBulk d + 1
  | .map entries => uptoBulkEntries entries + 1
  | .held _ => 1
def uptoBulkAll {H : Type} : List (DataW H) → Nat
  | [] => 0
  | d :: r => uptoBulk d + uptoBulkAll r
def uptoBulkEntries {H : Type} : List (Lit × DataW H) → Nat
  | [] => 0
  | x :: r => uptoBulkEntry x + uptoBulkEntries r
def uptoBulkEntry {H : Type} : Lit × DataW H → Nat
  | (.string bytes, d) => bytes.length + uptoBulk d + 1
  | (_, d) => uptoBulk d + 1
 end
def uptoSmall : (H : Type) → List (DataW H) → Bool := fun _ ds => decide (uptoBulkAll ds ≤ 1048576)
def OpenSpec.upto (s : _root_.Go.ChangeSpec) : _root_.Go.OpenSpec := { _root_.Go.OpenSpec.ofChange s with cond := some uptoSmall }

/-- 'drosslaw13.BasisBasis', WHERE WHAT IT READS IS OF BULK AT MOST 1048576: true; the input reads as it did. -/
def basisBasisUptoRow : OpenClaim := { program := "ytmiedlcblpiemaadoor", sum := "bcbd148a0b904550d7c2cdb20c7f7133ff24bb5ded613af10baac52d0766b5c7", func := "dross/drosslaw13.BasisBasis", spec := "basisBasis", unfollowed := true, recurses := true, named := ["math/bits.deBruijn32tab"], apart := false, laid := [("math/bits.deBruijn32tab", laid_math_bits_deBruijn32tab)], narrowed := true }
def BasisBasisUptoSaid : Prop := basisBasisUptoRow.holds Tryd.pinned (OpenSpec.upto basisBasisSpec)

/-- 'drosslaw13.BasisClose', WHERE WHAT IT READS IS OF BULK AT MOST 1048576: true; the input reads as it did. -/
def basisCloseUptoRow : OpenClaim := { program := "ytmiedlcblpiemaadoor", sum := "bcbd148a0b904550d7c2cdb20c7f7133ff24bb5ded613af10baac52d0766b5c7", func := "dross/drosslaw13.BasisClose", spec := "basisClose", unfollowed := true, recurses := true, named := ["math/bits.deBruijn32tab"], apart := false, laid := [("math/bits.deBruijn32tab", laid_math_bits_deBruijn32tab)], narrowed := true }
def BasisCloseUptoSaid : Prop := basisCloseUptoRow.holds Tryd.pinned (OpenSpec.upto basisCloseSpec)

/-- 'drosslaw13.BasisBoth', WHERE WHAT IT READS IS OF BULK AT MOST 1048576: true; the input reads as it did. -/
def basisBothUptoRow : OpenClaim := { program := "ytmiedlcblpiemaadoor", sum := "bcbd148a0b904550d7c2cdb20c7f7133ff24bb5ded613af10baac52d0766b5c7", func := "dross/drosslaw13.BasisBoth", spec := "basisBoth", unfollowed := true, recurses := true, named := ["math/bits.deBruijn32tab"], apart := false, laid := [("math/bits.deBruijn32tab", laid_math_bits_deBruijn32tab)], narrowed := true }
def BasisBothUptoSaid : Prop := basisBothUptoRow.holds Tryd.pinned (OpenSpec.upto basisBothSpec)

/-- 'drosslaw13.BasisImplies', WHERE WHAT IT READS IS OF BULK AT MOST 1048576: true; the input reads as it did. -/
def basisImpliesUptoRow : OpenClaim := { program := "ytmiedlcblpiemaadoor", sum := "bcbd148a0b904550d7c2cdb20c7f7133ff24bb5ded613af10baac52d0766b5c7", func := "dross/drosslaw13.BasisImplies", spec := "basisImplies", unfollowed := true, recurses := true, named := ["math/bits.deBruijn32tab"], apart := false, laid := [("math/bits.deBruijn32tab", laid_math_bits_deBruijn32tab)], narrowed := true }
def BasisImpliesUptoSaid : Prop := basisImpliesUptoRow.holds Tryd.pinned (OpenSpec.upto basisImpliesSpec)

/-- 'drosslaw13.BasisHolds', WHERE WHAT IT READS IS OF BULK AT MOST 1048576: true; the input reads as it did. -/
def basisHoldsUptoRow : OpenClaim := { program := "ytmiedlcblpiemaadoor", sum := "bcbd148a0b904550d7c2cdb20c7f7133ff24bb5ded613af10baac52d0766b5c7", func := "dross/drosslaw13.BasisHolds", spec := "basisHolds", unfollowed := true, recurses := true, named := ["math/bits.deBruijn32tab"], apart := false, laid := [("math/bits.deBruijn32tab", laid_math_bits_deBruijn32tab)], narrowed := true }
def BasisHoldsUptoSaid : Prop := basisHoldsUptoRow.holds Tryd.pinned (OpenSpec.upto basisHoldsSpec)

/-- 'drosslaw13.BasisSound', WHERE WHAT IT READS IS OF BULK AT MOST 1048576: true; the input reads as it did. -/
def basisSoundUptoRow : OpenClaim := { program := "ytmiedlcblpiemaadoor", sum := "bcbd148a0b904550d7c2cdb20c7f7133ff24bb5ded613af10baac52d0766b5c7", func := "dross/drosslaw13.BasisSound", spec := "basisSound", unfollowed := true, recurses := true, named := ["math/bits.deBruijn32tab"], apart := false, laid := [("math/bits.deBruijn32tab", laid_math_bits_deBruijn32tab)], narrowed := true }
def BasisSoundUptoSaid : Prop := basisSoundUptoRow.holds Tryd.pinned (OpenSpec.upto basisSoundSpec)

end Rows
end Go.Proofs.YtmiedlcblpiemaaDoor
