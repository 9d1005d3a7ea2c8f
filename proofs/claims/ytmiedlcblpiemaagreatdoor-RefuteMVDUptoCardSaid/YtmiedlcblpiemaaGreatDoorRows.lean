/-
  NARROWER THAN 'FOR EVERY INPUT', by the rows' own cells (each row's printed sentence says how): RefuteMixed: laid · RefuteSatisfies: laid · RefuteCheck: laid · RefuteMVD: laid · RefuteSmallest: laid.
  DERIVED. THE GIVEN ROWS OF THIS SEAT. 5 by the template 'for every input the law returns true; each argument reads behind the call as it read before'; 0 by the template 'total and deterministic' (their statements: YtmiedlcblpiemaaGreatDoorTotals.lean).
  GIVEN WITH THE SEED: the statements are not yours to turn. If you find one false, say at which input.
  Laid BY PROGRAM, IN A SANDBOX (cutbox-rows.mjs): the forced cells as the released guide's own fill.sh prints them over the translation ba790e8f7e6df61b… (all of the seat's roots in one cut). By AI agents, Wed Nov 11 2026. No macro, syntax, notation, axiom, sorry.
-/
import Derived.Test.YtmiedlcblpiemaaGreatDoorChecked
import GoSem.Claim
import GoSem.ClaimJoined
import GoSem.ClaimMapViews
import Derived.JoinedTies
import Derived.KernelRfl
namespace Go.Proofs.YtmiedlcblpiemaaGreatDoor
/- THE CELL 'sum', in the pinned program and in every row, IS THE sha256 OF THE DUMP (.gsa) THAT YtmiedlcblpiemaaGreatDoorProg.lean LOADS. Nothing in Lean hashes anything: it is a label: what it is worth is what the hold of that sum in a sandbox is worth. -/
noncomputable def Tryz.pinned : Pinned := { name := "ytmiedlcblpiemaagreatdoor", sum := "ba790e8f7e6df61bebdc624593ac1f7be514a42b285ab17ecc3eac47921f05d0", checked := Tryz.checked }
namespace Rows
def none {H : Type} : Left H := { results := [], args := [] }

/- WHAT THE LISTED PACKAGE-LEVEL VARIABLES READ AS WHEN THE CALL BEGINS. Each datum BY PROGRAM (the guide's laid-datum.mjs) off the statement by which the dump's own 'gosem.cut.vars' lays the variable. In a bare row this is a premise. The card (YtmiedlcblpiemaaGreatDoorCards.lean) ties it to the program's text. -/
def laid_math_bits_deBruijn32tab {H : Type} : DataW H := .agg [.lit (.int .u8 0), .lit (.int .u8 1), .lit (.int .u8 28), .lit (.int .u8 2), .lit (.int .u8 29), .lit (.int .u8 14), .lit (.int .u8 24), .lit (.int .u8 3), .lit (.int .u8 30), .lit (.int .u8 22), .lit (.int .u8 20), .lit (.int .u8 15), .lit (.int .u8 25), .lit (.int .u8 17), .lit (.int .u8 4), .lit (.int .u8 8), .lit (.int .u8 31), .lit (.int .u8 27), .lit (.int .u8 13), .lit (.int .u8 23), .lit (.int .u8 21), .lit (.int .u8 19), .lit (.int .u8 16), .lit (.int .u8 7), .lit (.int .u8 26), .lit (.int .u8 12), .lit (.int .u8 18), .lit (.int .u8 6), .lit (.int .u8 11), .lit (.int .u8 5), .lit (.int .u8 10), .lit (.int .u8 9)]

/-- 'drosslaw20.RefuteMixed': WHATEVER THE INPUT: true; the input reads as it did. -/
def refuteMixedSpec : ChangeSpec := { name := "refuteMixed", fn := fun _ => fun
  | [d1, d2] => { results := [.lit (.bool true)], args := [d1, d2] }
  | _ => none }
def refuteMixedRow : OpenClaim := { program := "ytmiedlcblpiemaagreatdoor", sum := "ba790e8f7e6df61bebdc624593ac1f7be514a42b285ab17ecc3eac47921f05d0", func := "dross/drosslaw20.RefuteMixed", spec := "refuteMixed", unfollowed := true, recurses := true, named := ["math/bits.deBruijn32tab"], apart := false, laid := [("math/bits.deBruijn32tab", laid_math_bits_deBruijn32tab)] }
def RefuteMixedSaid : Prop := refuteMixedRow.holds Tryz.pinned (OpenSpec.ofChange refuteMixedSpec)

/-- ITS FALSE NEIGHBOUR: 'it returns false'. Refute it at one input. -/
def refuteMixedWrong : ChangeSpec := { name := "refuteMixed", fn := fun _ => fun
  | [d1, d2] => { results := [.lit (.bool false)], args := [d1, d2] }
  | _ => none }
def RefuteMixedWrongFalsely : Prop := refuteMixedRow.holds Tryz.pinned (OpenSpec.ofChange refuteMixedWrong)

/-- 'drosslaw20.RefuteSatisfies': WHATEVER THE INPUT: true; the input reads as it did. -/
def refuteSatisfiesSpec : ChangeSpec := { name := "refuteSatisfies", fn := fun _ => fun
  | [d1, d2, d3] => { results := [.lit (.bool true)], args := [d1, d2, d3] }
  | _ => none }
def refuteSatisfiesRow : OpenClaim := { program := "ytmiedlcblpiemaagreatdoor", sum := "ba790e8f7e6df61bebdc624593ac1f7be514a42b285ab17ecc3eac47921f05d0", func := "dross/drosslaw20.RefuteSatisfies", spec := "refuteSatisfies", inPlace := ["internal/abi.NoEscape"], unfollowed := true, recurses := true, named := ["math/bits.deBruijn32tab"], apart := false, laid := [("math/bits.deBruijn32tab", laid_math_bits_deBruijn32tab)] }
def RefuteSatisfiesSaid : Prop := refuteSatisfiesRow.holds Tryz.pinned (OpenSpec.ofChange refuteSatisfiesSpec)

/-- ITS FALSE NEIGHBOUR: 'it returns false'. Refute it at one input. -/
def refuteSatisfiesWrong : ChangeSpec := { name := "refuteSatisfies", fn := fun _ => fun
  | [d1, d2, d3] => { results := [.lit (.bool false)], args := [d1, d2, d3] }
  | _ => none }
def RefuteSatisfiesWrongFalsely : Prop := refuteSatisfiesRow.holds Tryz.pinned (OpenSpec.ofChange refuteSatisfiesWrong)

/-- 'drosslaw20.RefuteCheck': WHATEVER THE INPUT: true; the input reads as it did. -/
def refuteCheckSpec : ChangeSpec := { name := "refuteCheck", fn := fun _ => fun
  | [d] => { results := [.lit (.bool true)], args := [d] }
  | _ => none }
def refuteCheckRow : OpenClaim := { program := "ytmiedlcblpiemaagreatdoor", sum := "ba790e8f7e6df61bebdc624593ac1f7be514a42b285ab17ecc3eac47921f05d0", func := "dross/drosslaw20.RefuteCheck", spec := "refuteCheck", inPlace := ["internal/abi.NoEscape"], unfollowed := true, recurses := true, named := ["math/bits.deBruijn32tab"], apart := false, laid := [("math/bits.deBruijn32tab", laid_math_bits_deBruijn32tab)] }
def RefuteCheckSaid : Prop := refuteCheckRow.holds Tryz.pinned (OpenSpec.ofChange refuteCheckSpec)

/-- ITS FALSE NEIGHBOUR: 'it returns false'. Refute it at one input. -/
def refuteCheckWrong : ChangeSpec := { name := "refuteCheck", fn := fun _ => fun
  | [d] => { results := [.lit (.bool false)], args := [d] }
  | _ => none }
def RefuteCheckWrongFalsely : Prop := refuteCheckRow.holds Tryz.pinned (OpenSpec.ofChange refuteCheckWrong)

/-- 'drosslaw20.RefuteMVD': WHATEVER THE INPUT: true; the input reads as it did. -/
def refuteMVDSpec : ChangeSpec := { name := "refuteMVD", fn := fun _ => fun
  | [d1, d2] => { results := [.lit (.bool true)], args := [d1, d2] }
  | _ => none }
def refuteMVDRow : OpenClaim := { program := "ytmiedlcblpiemaagreatdoor", sum := "ba790e8f7e6df61bebdc624593ac1f7be514a42b285ab17ecc3eac47921f05d0", func := "dross/drosslaw20.RefuteMVD", spec := "refuteMVD", inPlace := ["internal/abi.NoEscape"], unfollowed := true, recurses := true, named := ["math/bits.deBruijn32tab"], apart := false, laid := [("math/bits.deBruijn32tab", laid_math_bits_deBruijn32tab)] }
def RefuteMVDSaid : Prop := refuteMVDRow.holds Tryz.pinned (OpenSpec.ofChange refuteMVDSpec)

/-- ITS FALSE NEIGHBOUR: 'it returns false'. Refute it at one input. -/
def refuteMVDWrong : ChangeSpec := { name := "refuteMVD", fn := fun _ => fun
  | [d1, d2] => { results := [.lit (.bool false)], args := [d1, d2] }
  | _ => none }
def RefuteMVDWrongFalsely : Prop := refuteMVDRow.holds Tryz.pinned (OpenSpec.ofChange refuteMVDWrong)

/-- 'drosslaw20.RefuteSmallest': WHATEVER THE INPUT: true; the input reads as it did. -/
def refuteSmallestSpec : ChangeSpec := { name := "refuteSmallest", fn := fun _ => fun
  | [d] => { results := [.lit (.bool true)], args := [d] }
  | _ => none }
def refuteSmallestRow : OpenClaim := { program := "ytmiedlcblpiemaagreatdoor", sum := "ba790e8f7e6df61bebdc624593ac1f7be514a42b285ab17ecc3eac47921f05d0", func := "dross/drosslaw20.RefuteSmallest", spec := "refuteSmallest", inPlace := ["internal/abi.NoEscape"], unfollowed := true, recurses := true, named := ["math/bits.deBruijn32tab"], apart := false, laid := [("math/bits.deBruijn32tab", laid_math_bits_deBruijn32tab)] }
def RefuteSmallestSaid : Prop := refuteSmallestRow.holds Tryz.pinned (OpenSpec.ofChange refuteSmallestSpec)

/-- ITS FALSE NEIGHBOUR: 'it returns false'. Refute it at one input. -/
def refuteSmallestWrong : ChangeSpec := { name := "refuteSmallest", fn := fun _ => fun
  | [d] => { results := [.lit (.bool false)], args := [d] }
  | _ => none }
def RefuteSmallestWrongFalsely : Prop := refuteSmallestRow.holds Tryz.pinned (OpenSpec.ofChange refuteSmallestWrong)

/- THE SECOND FORM. 'bulk': how many values and letters a reading holds, each counted each time it is reached (what is shared counts as often as it is met; a slice's spare places count too). A statement '..UptoSaid' is the law's where the arguments, and the package variables that the reading takes, are together of bulk at most 1048576: NARROWER than '..Said'. Prove '..Said' where nothing that the law and all that it calls make is longer than what came in: it says more and counts as full. Else prove '..UptoSaid'. A law counts once. -/
mutual
def uptoBulk {H : Type} : DataW H → Nat
  | .lit (.string bytes) => bytes.length + 1
  | .lit _ => 1
  | .nil => 1
  | .ptr d => uptoBulk d + 1
  | .slice elems spare => uptoBulkAll elems + uptoBulkAll spare + 1
  | .agg parts => uptoBulkAll parts + 1
  | .iface _ d => uptoBulk d + 1
  | .map entries => uptoBulkEntries entries + 1
  | .held _ => 1
def uptoBulkAll {H : Type} : List (DataW H) → Nat
  | [] => 0
  | d :: r => uptoBulk d + uptoBulkAll r
def uptoBulkEntries {H : Type} : List (Lit × DataW H) → Nat
  | [] => 0
  | x :: r => uptoBulkEntry x + uptoBulkEntries r
def uptoBulkEntry {H : Type} : Lit × DataW H → Nat
  | (.string bytes, d) => bytes.length + uptoBulk d + 1
  | (_, d) => uptoBulk d + 1
 end
def uptoSmall : (H : Type) → List (DataW H) → Bool := fun _ ds => decide (uptoBulkAll ds ≤ 1048576)
def OpenSpec.upto (s : _root_.Go.ChangeSpec) : _root_.Go.OpenSpec := { _root_.Go.OpenSpec.ofChange s with cond := some uptoSmall }

/-- 'drosslaw20.RefuteMixed', WHERE WHAT IT READS IS OF BULK AT MOST 1048576: true; the input reads as it did. -/
def refuteMixedUptoRow : OpenClaim := { program := "ytmiedlcblpiemaagreatdoor", sum := "ba790e8f7e6df61bebdc624593ac1f7be514a42b285ab17ecc3eac47921f05d0", func := "dross/drosslaw20.RefuteMixed", spec := "refuteMixed", unfollowed := true, recurses := true, named := ["math/bits.deBruijn32tab"], apart := false, laid := [("math/bits.deBruijn32tab", laid_math_bits_deBruijn32tab)], narrowed := true }
def RefuteMixedUptoSaid : Prop := refuteMixedUptoRow.holds Tryz.pinned (OpenSpec.upto refuteMixedSpec)

/-- 'drosslaw20.RefuteSatisfies', WHERE WHAT IT READS IS OF BULK AT MOST 1048576: true; the input reads as it did. -/
def refuteSatisfiesUptoRow : OpenClaim := { program := "ytmiedlcblpiemaagreatdoor", sum := "ba790e8f7e6df61bebdc624593ac1f7be514a42b285ab17ecc3eac47921f05d0", func := "dross/drosslaw20.RefuteSatisfies", spec := "refuteSatisfies", inPlace := ["internal/abi.NoEscape"], unfollowed := true, recurses := true, named := ["math/bits.deBruijn32tab"], apart := false, laid := [("math/bits.deBruijn32tab", laid_math_bits_deBruijn32tab)], narrowed := true }
def RefuteSatisfiesUptoSaid : Prop := refuteSatisfiesUptoRow.holds Tryz.pinned (OpenSpec.upto refuteSatisfiesSpec)

/-- 'drosslaw20.RefuteCheck', WHERE WHAT IT READS IS OF BULK AT MOST 1048576: true; the input reads as it did. -/
def refuteCheckUptoRow : OpenClaim := { program := "ytmiedlcblpiemaagreatdoor", sum := "ba790e8f7e6df61bebdc624593ac1f7be514a42b285ab17ecc3eac47921f05d0", func := "dross/drosslaw20.RefuteCheck", spec := "refuteCheck", inPlace := ["internal/abi.NoEscape"], unfollowed := true, recurses := true, named := ["math/bits.deBruijn32tab"], apart := false, laid := [("math/bits.deBruijn32tab", laid_math_bits_deBruijn32tab)], narrowed := true }
def RefuteCheckUptoSaid : Prop := refuteCheckUptoRow.holds Tryz.pinned (OpenSpec.upto refuteCheckSpec)

/-- 'drosslaw20.RefuteMVD', WHERE WHAT IT READS IS OF BULK AT MOST 1048576: true; the input reads as it did. -/
def refuteMVDUptoRow : OpenClaim := { program := "ytmiedlcblpiemaagreatdoor", sum := "ba790e8f7e6df61bebdc624593ac1f7be514a42b285ab17ecc3eac47921f05d0", func := "dross/drosslaw20.RefuteMVD", spec := "refuteMVD", inPlace := ["internal/abi.NoEscape"], unfollowed := true, recurses := true, named := ["math/bits.deBruijn32tab"], apart := false, laid := [("math/bits.deBruijn32tab", laid_math_bits_deBruijn32tab)], narrowed := true }
def RefuteMVDUptoSaid : Prop := refuteMVDUptoRow.holds Tryz.pinned (OpenSpec.upto refuteMVDSpec)

/-- 'drosslaw20.RefuteSmallest', WHERE WHAT IT READS IS OF BULK AT MOST 1048576: true; the input reads as it did. -/
def refuteSmallestUptoRow : OpenClaim := { program := "ytmiedlcblpiemaagreatdoor", sum := "ba790e8f7e6df61bebdc624593ac1f7be514a42b285ab17ecc3eac47921f05d0", func := "dross/drosslaw20.RefuteSmallest", spec := "refuteSmallest", inPlace := ["internal/abi.NoEscape"], unfollowed := true, recurses := true, named := ["math/bits.deBruijn32tab"], apart := false, laid := [("math/bits.deBruijn32tab", laid_math_bits_deBruijn32tab)], narrowed := true }
def RefuteSmallestUptoSaid : Prop := refuteSmallestUptoRow.holds Tryz.pinned (OpenSpec.upto refuteSmallestSpec)

end Rows
end Go.Proofs.YtmiedlcblpiemaaGreatDoor
