/-
  NARROWER THAN 'FOR EVERY INPUT', by the rows' own cells (each row's printed sentence says how): BasisErrors: laid · RefuteFD: laid · RefuteTwo: laid · RefuteErrors: laid.
  DERIVED. THE GIVEN ROWS OF THIS SEAT. 4 by the template 'for every input the law returns true; each argument reads behind the call as it read before'; 0 by the template 'total and deterministic' (their statements: YtbemcminbfhakaaDoorTotals.lean).
  GIVEN WITH THE SEED: the statements are not yours to turn. If you find one false, say at which input.
  Laid BY PROGRAM, IN A SANDBOX (cutbox-rows.mjs): the forced cells as the released guide's own fill.sh prints them over the translation 8bf09574515321dd… (all of the seat's roots in one cut). By AI agents, Wed Nov 11 2026. No macro, syntax, notation, axiom, sorry.
-/
import Derived.Test.YtbemcminbfhakaaDoorChecked
import GoSem.Claim
import GoSem.ClaimJoined
import GoSem.ClaimMapViews
import Derived.JoinedTies
import Derived.KernelRfl
namespace Go.Proofs.YtbemcminbfhakaaDoor
/- THE CELL 'sum', in the pinned program and in every row, IS THE sha256 OF THE DUMP (.gsa) THAT YtbemcminbfhakaaDoorProg.lean LOADS. Nothing in Lean hashes anything: it is a label: what it is worth is what the hold of that sum in a sandbox is worth. -/
noncomputable def Tryd.pinned : Pinned := { name := "ytbemcminbfhakaadoor", sum := "8bf09574515321ddf662f1e4415d867cebf4075c96e7894977e2d2fbaeadfc8d", checked := Tryd.checked }
namespace Rows
def none {H : Type} : Left H := { results := [], args := [] }

/- WHAT THE LISTED PACKAGE-LEVEL VARIABLES READ AS WHEN THE CALL BEGINS. Each datum BY PROGRAM (the guide's laid-datum.mjs) off the statement by which the dump's own 'gosem.cut.vars' lays the variable. In a bare row this is a premise. The card (YtbemcminbfhakaaDoorCards.lean) ties it to the program's text. -/
def laid_math_bits_deBruijn32tab {H : Type} : DataW H := .agg [.lit (.int .u8 0), .lit (.int .u8 1), .lit (.int .u8 28), .lit (.int .u8 2), .lit (.int .u8 29), .lit (.int .u8 14), .lit (.int .u8 24), .lit (.int .u8 3), .lit (.int .u8 30), .lit (.int .u8 22), .lit (.int .u8 20), .lit (.int .u8 15), .lit (.int .u8 25), .lit (.int .u8 17), .lit (.int .u8 4), .lit (.int .u8 8), .lit (.int .u8 31), .lit (.int .u8 27), .lit (.int .u8 13), .lit (.int .u8 23), .lit (.int .u8 21), .lit (.int .u8 19), .lit (.int .u8 16), .lit (.int .u8 7), .lit (.int .u8 26), .lit (.int .u8 12), .lit (.int .u8 18), .lit (.int .u8 6), .lit (.int .u8 11), .lit (.int .u8 5), .lit (.int .u8 10), .lit (.int .u8 9)]

/-- 'drosslaw13.BasisErrors': WHATEVER THE INPUT: true; the input reads as it did. -/
def basisErrorsSpec : ChangeSpec := { name := "basisErrors", fn := fun _ => fun
  | [d1, d2, d3] => { results := [.lit (.bool true)], args := [d1, d2, d3] }
  | _ => none }
def basisErrorsRow : OpenClaim := { program := "ytbemcminbfhakaadoor", sum := "8bf09574515321ddf662f1e4415d867cebf4075c96e7894977e2d2fbaeadfc8d", func := "dross/drosslaw13.BasisErrors", spec := "basisErrors", unfollowed := true, recurses := true, named := ["math/bits.deBruijn32tab"], apart := false, laid := [("math/bits.deBruijn32tab", laid_math_bits_deBruijn32tab)] }
def BasisErrorsSaid : Prop := basisErrorsRow.holds Tryd.pinned (OpenSpec.ofChange basisErrorsSpec)

/-- ITS FALSE NEIGHBOUR: 'it returns false'. Refute it at one input. -/
def basisErrorsWrong : ChangeSpec := { name := "basisErrors", fn := fun _ => fun
  | [d1, d2, d3] => { results := [.lit (.bool false)], args := [d1, d2, d3] }
  | _ => none }
def BasisErrorsWrongFalsely : Prop := basisErrorsRow.holds Tryd.pinned (OpenSpec.ofChange basisErrorsWrong)

/-- 'drosslaw20.RefuteFD': WHATEVER THE INPUT: true; the input reads as it did. -/
def refuteFDSpec : ChangeSpec := { name := "refuteFD", fn := fun _ => fun
  | [d1, d2, d3] => { results := [.lit (.bool true)], args := [d1, d2, d3] }
  | _ => none }
def refuteFDRow : OpenClaim := { program := "ytbemcminbfhakaadoor", sum := "8bf09574515321ddf662f1e4415d867cebf4075c96e7894977e2d2fbaeadfc8d", func := "dross/drosslaw20.RefuteFD", spec := "refuteFD", unfollowed := true, recurses := true, named := ["math/bits.deBruijn32tab"], apart := false, laid := [("math/bits.deBruijn32tab", laid_math_bits_deBruijn32tab)] }
def RefuteFDSaid : Prop := refuteFDRow.holds Tryd.pinned (OpenSpec.ofChange refuteFDSpec)

/-- ITS FALSE NEIGHBOUR: 'it returns false'. Refute it at one input. -/
def refuteFDWrong : ChangeSpec := { name := "refuteFD", fn := fun _ => fun
  | [d1, d2, d3] => { results := [.lit (.bool false)], args := [d1, d2, d3] }
  | _ => none }
def RefuteFDWrongFalsely : Prop := refuteFDRow.holds Tryd.pinned (OpenSpec.ofChange refuteFDWrong)

/-- 'drosslaw20.RefuteTwo': WHATEVER THE INPUT: true; the input reads as it did. -/
def refuteTwoSpec : ChangeSpec := { name := "refuteTwo", fn := fun _ => fun
  | [d1, d2, d3] => { results := [.lit (.bool true)], args := [d1, d2, d3] }
  | _ => none }
def refuteTwoRow : OpenClaim := { program := "ytbemcminbfhakaadoor", sum := "8bf09574515321ddf662f1e4415d867cebf4075c96e7894977e2d2fbaeadfc8d", func := "dross/drosslaw20.RefuteTwo", spec := "refuteTwo", unfollowed := true, recurses := true, named := ["math/bits.deBruijn32tab"], apart := false, laid := [("math/bits.deBruijn32tab", laid_math_bits_deBruijn32tab)] }
def RefuteTwoSaid : Prop := refuteTwoRow.holds Tryd.pinned (OpenSpec.ofChange refuteTwoSpec)

/-- ITS FALSE NEIGHBOUR: 'it returns false'. Refute it at one input. -/
def refuteTwoWrong : ChangeSpec := { name := "refuteTwo", fn := fun _ => fun
  | [d1, d2, d3] => { results := [.lit (.bool false)], args := [d1, d2, d3] }
  | _ => none }
def RefuteTwoWrongFalsely : Prop := refuteTwoRow.holds Tryd.pinned (OpenSpec.ofChange refuteTwoWrong)

/-- 'drosslaw20.RefuteErrors': WHATEVER THE INPUT: true; the input reads as it did. -/
def refuteErrorsSpec : ChangeSpec := { name := "refuteErrors", fn := fun _ => fun
  | [d1, d2, d3] => { results := [.lit (.bool true)], args := [d1, d2, d3] }
  | _ => none }
def refuteErrorsRow : OpenClaim := { program := "ytbemcminbfhakaadoor", sum := "8bf09574515321ddf662f1e4415d867cebf4075c96e7894977e2d2fbaeadfc8d", func := "dross/drosslaw20.RefuteErrors", spec := "refuteErrors", unfollowed := true, recurses := true, named := ["math/bits.deBruijn32tab"], apart := false, laid := [("math/bits.deBruijn32tab", laid_math_bits_deBruijn32tab)] }
def RefuteErrorsSaid : Prop := refuteErrorsRow.holds Tryd.pinned (OpenSpec.ofChange refuteErrorsSpec)

/-- ITS FALSE NEIGHBOUR: 'it returns false'. Refute it at one input. -/
def refuteErrorsWrong : ChangeSpec := { name := "refuteErrors", fn := fun _ => fun
  | [d1, d2, d3] => { results := [.lit (.bool false)], args := [d1, d2, d3] }
  | _ => none }
def RefuteErrorsWrongFalsely : Prop := refuteErrorsRow.holds Tryd.pinned (OpenSpec.ofChange refuteErrorsWrong)

/- THE SECOND FORM. 'bulk': how many values and letters a reading holds, each counted each time it is reached (what is shared counts as often as it is met; a slice's spare places count too). A statement '..UptoSaid' is the law's where the arguments, and the package variables that the reading takes, are together of bulk at most 1048576: NARROWER than '..Said'. Prove '..Said' where nothing that the law and all that it calls make is longer than what came in: it says more and counts as full. Else prove '..UptoSaid'. A law counts once. -/
mutual
def uptoBulk {H : Type} : DataW H → Nat
  | .lit (.string bytes) => bytes.length + 1
  | .lit _ => 1
  | .nil => 1
  | .ptr d => uptoBulk d + 1
  | .slice elems spare => uptoBulkAll elems + uptoBulkAll spare + 1
  | .agg parts => uptoBulkAll parts + 1
  | .iface _ d => uptoBulk d + 1
  | .map entries => uptoBulkEntries entries + 1
  | .held _ => 1
def uptoBulkAll {H : Type} : List (DataW H) → Nat
  | [] => 0
  | d :: r => uptoBulk d + uptoBulkAll r
def uptoBulkEntries {H : Type} : List (Lit × DataW H) → Nat
  | [] => 0
  | x :: r => uptoBulkEntry x + uptoBulkEntries r
def uptoBulkEntry {H : Type} : Lit × DataW H → Nat
  | (.string bytes, d) => bytes.length + uptoBulk d + 1
  | (_, d) => uptoBulk d + 1
 end
def uptoSmall : (H : Type) → List (DataW H) → Bool := fun _ ds => decide (uptoBulkAll ds ≤ 1048576)
def OpenSpec.upto (s : _root_.Go.ChangeSpec) : _root_.Go.OpenSpec := { _root_.Go.OpenSpec.ofChange s with cond := some uptoSmall }

/-- 'drosslaw13.BasisErrors', WHERE WHAT IT READS IS OF BULK AT MOST 1048576: true; the input reads as it did. -/
def basisErrorsUptoRow : OpenClaim := { program := "ytbemcminbfhakaadoor", sum := "8bf09574515321ddf662f1e4415d867cebf4075c96e7894977e2d2fbaeadfc8d", func := "dross/drosslaw13.BasisErrors", spec := "basisErrors", unfollowed := true, recurses := true, named := ["math/bits.deBruijn32tab"], apart := false, laid := [("math/bits.deBruijn32tab", laid_math_bits_deBruijn32tab)], narrowed := true }
def BasisErrorsUptoSaid : Prop := basisErrorsUptoRow.holds Tryd.pinned (OpenSpec.upto basisErrorsSpec)

/-- 'drosslaw20.RefuteFD', WHERE WHAT IT READS IS OF BULK AT MOST 1048576: true; the input reads as it did. -/
def refuteFDUptoRow : OpenClaim := { program := "ytbemcminbfhakaadoor", sum := "8bf09574515321ddf662f1e4415d867cebf4075c96e7894977e2d2fbaeadfc8d", func := "dross/drosslaw20.RefuteFD", spec := "refuteFD", unfollowed := true, recurses := true, named := ["math/bits.deBruijn32tab"], apart := false, laid := [("math/bits.deBruijn32tab", laid_math_bits_deBruijn32tab)], narrowed := true }
def RefuteFDUptoSaid : Prop := refuteFDUptoRow.holds Tryd.pinned (OpenSpec.upto refuteFDSpec)

/-- 'drosslaw20.RefuteTwo', WHERE WHAT IT READS IS OF BULK AT MOST 1048576: true; the input reads as it did. -/
def refuteTwoUptoRow : OpenClaim := { program := "ytbemcminbfhakaadoor", sum := "8bf09574515321ddf662f1e4415d867cebf4075c96e7894977e2d2fbaeadfc8d", func := "dross/drosslaw20.RefuteTwo", spec := "refuteTwo", unfollowed := true, recurses := true, named := ["math/bits.deBruijn32tab"], apart := false, laid := [("math/bits.deBruijn32tab", laid_math_bits_deBruijn32tab)], narrowed := true }
def RefuteTwoUptoSaid : Prop := refuteTwoUptoRow.holds Tryd.pinned (OpenSpec.upto refuteTwoSpec)

/-- 'drosslaw20.RefuteErrors', WHERE WHAT IT READS IS OF BULK AT MOST 1048576: true; the input reads as it did. -/
def refuteErrorsUptoRow : OpenClaim := { program := "ytbemcminbfhakaadoor", sum := "8bf09574515321ddf662f1e4415d867cebf4075c96e7894977e2d2fbaeadfc8d", func := "dross/drosslaw20.RefuteErrors", spec := "refuteErrors", unfollowed := true, recurses := true, named := ["math/bits.deBruijn32tab"], apart := false, laid := [("math/bits.deBruijn32tab", laid_math_bits_deBruijn32tab)], narrowed := true }
def RefuteErrorsUptoSaid : Prop := refuteErrorsUptoRow.holds Tryd.pinned (OpenSpec.upto refuteErrorsSpec)

end Rows
end Go.Proofs.YtbemcminbfhakaaDoor
