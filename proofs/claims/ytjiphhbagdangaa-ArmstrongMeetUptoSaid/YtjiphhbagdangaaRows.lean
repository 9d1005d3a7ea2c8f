/-
  No cell of these rows narrows 'for every input' (looked for: loops, veiled, ifaces, maps, wideKeys, modest, calm, conditions, laid).
  DERIVED. THE GIVEN ROWS OF THIS SEAT. 4 by the template 'for every input the law returns true; each argument reads behind the call as it read before'; 0 by the template 'total and deterministic' (their statements: YtjiphhbagdangaaTotals.lean).
  GIVEN WITH THE SEED: the statements are not yours to turn. If you find one false, say at which input.
  Laid BY PROGRAM, IN A SANDBOX (cutbox-rows.mjs): the forced cells as the released guide's own fill.sh prints them over the translation f22db40a63a22f29… (all of the seat's roots in one cut). By AI agents, Wed Nov 11 2026. No macro, syntax, notation, axiom, sorry.
-/
import Derived.Test.YtjiphhbagdangaaChecked
import GoSem.Claim
import GoSem.ClaimJoined
import GoSem.ClaimMapViews
import Derived.JoinedTies
import Derived.KernelRfl
namespace Go.Proofs.Ytjiphhbagdangaa
/- THE CELL 'sum', in the pinned program and in every row, IS THE sha256 OF THE DUMP (.gsa) THAT YtjiphhbagdangaaProg.lean LOADS. Nothing in Lean hashes anything: it is a label: what it is worth is what the hold of that sum in a sandbox is worth. -/
noncomputable def Try.pinned : Pinned := { name := "ytjiphhbagdangaa", sum := "f22db40a63a22f29ac6c76d6cdf8755efe0a2cab206757c0440b7c557a0fab1e", checked := Try.checked }
namespace Rows
def none {H : Type} : Left H := { results := [], args := [] }

/-- 'drosslaw19.ArmstrongIrreducible': WHATEVER THE INPUT: true; the input reads as it did. -/
def armstrongIrreducibleSpec : ChangeSpec := { name := "armstrongIrreducible", fn := fun _ => fun
  | [d1, d2] => { results := [.lit (.bool true)], args := [d1, d2] }
  | _ => none }
def armstrongIrreducibleRow : OpenClaim := { program := "ytjiphhbagdangaa", sum := "f22db40a63a22f29ac6c76d6cdf8755efe0a2cab206757c0440b7c557a0fab1e", func := "dross/drosslaw19.ArmstrongIrreducible", spec := "armstrongIrreducible", unfollowed := true, recurses := true, apart := false }
def ArmstrongIrreducibleSaid : Prop := armstrongIrreducibleRow.holds Try.pinned (OpenSpec.ofChange armstrongIrreducibleSpec)

/-- ITS FALSE NEIGHBOUR: 'it returns false'. Refute it at one input. -/
def armstrongIrreducibleWrong : ChangeSpec := { name := "armstrongIrreducible", fn := fun _ => fun
  | [d1, d2] => { results := [.lit (.bool false)], args := [d1, d2] }
  | _ => none }
def ArmstrongIrreducibleWrongFalsely : Prop := armstrongIrreducibleRow.holds Try.pinned (OpenSpec.ofChange armstrongIrreducibleWrong)

/-- 'drosslaw19.ArmstrongMax': WHATEVER THE INPUT: true; the input reads as it did. -/
def armstrongMaxSpec : ChangeSpec := { name := "armstrongMax", fn := fun _ => fun
  | [d1, d2, d3] => { results := [.lit (.bool true)], args := [d1, d2, d3] }
  | _ => none }
def armstrongMaxRow : OpenClaim := { program := "ytjiphhbagdangaa", sum := "f22db40a63a22f29ac6c76d6cdf8755efe0a2cab206757c0440b7c557a0fab1e", func := "dross/drosslaw19.ArmstrongMax", spec := "armstrongMax", unfollowed := true, recurses := true, apart := false }
def ArmstrongMaxSaid : Prop := armstrongMaxRow.holds Try.pinned (OpenSpec.ofChange armstrongMaxSpec)

/-- ITS FALSE NEIGHBOUR: 'it returns false'. Refute it at one input. -/
def armstrongMaxWrong : ChangeSpec := { name := "armstrongMax", fn := fun _ => fun
  | [d1, d2, d3] => { results := [.lit (.bool false)], args := [d1, d2, d3] }
  | _ => none }
def ArmstrongMaxWrongFalsely : Prop := armstrongMaxRow.holds Try.pinned (OpenSpec.ofChange armstrongMaxWrong)

/-- 'drosslaw19.ArmstrongBuild': WHATEVER THE INPUT: true; the input reads as it did. -/
def armstrongBuildSpec : ChangeSpec := { name := "armstrongBuild", fn := fun _ => fun
  | [d1, d2] => { results := [.lit (.bool true)], args := [d1, d2] }
  | _ => none }
def armstrongBuildRow : OpenClaim := { program := "ytjiphhbagdangaa", sum := "f22db40a63a22f29ac6c76d6cdf8755efe0a2cab206757c0440b7c557a0fab1e", func := "dross/drosslaw19.ArmstrongBuild", spec := "armstrongBuild", unfollowed := true, recurses := true, apart := false }
def ArmstrongBuildSaid : Prop := armstrongBuildRow.holds Try.pinned (OpenSpec.ofChange armstrongBuildSpec)

/-- ITS FALSE NEIGHBOUR: 'it returns false'. Refute it at one input. -/
def armstrongBuildWrong : ChangeSpec := { name := "armstrongBuild", fn := fun _ => fun
  | [d1, d2] => { results := [.lit (.bool false)], args := [d1, d2] }
  | _ => none }
def ArmstrongBuildWrongFalsely : Prop := armstrongBuildRow.holds Try.pinned (OpenSpec.ofChange armstrongBuildWrong)

/-- 'drosslaw19.ArmstrongMeet': WHATEVER THE INPUT: true; the input reads as it did. -/
def armstrongMeetSpec : ChangeSpec := { name := "armstrongMeet", fn := fun _ => fun
  | [d] => { results := [.lit (.bool true)], args := [d] }
  | _ => none }
def armstrongMeetRow : OpenClaim := { program := "ytjiphhbagdangaa", sum := "f22db40a63a22f29ac6c76d6cdf8755efe0a2cab206757c0440b7c557a0fab1e", func := "dross/drosslaw19.ArmstrongMeet", spec := "armstrongMeet", unfollowed := true, recurses := true, apart := false }
def ArmstrongMeetSaid : Prop := armstrongMeetRow.holds Try.pinned (OpenSpec.ofChange armstrongMeetSpec)

/-- ITS FALSE NEIGHBOUR: 'it returns false'. Refute it at one input. -/
def armstrongMeetWrong : ChangeSpec := { name := "armstrongMeet", fn := fun _ => fun
  | [d] => { results := [.lit (.bool false)], args := [d] }
  | _ => none }
def ArmstrongMeetWrongFalsely : Prop := armstrongMeetRow.holds Try.pinned (OpenSpec.ofChange armstrongMeetWrong)

/- THE SECOND FORM. 'bulk': how many values and letters a reading holds, each counted each time it is reached (what is shared counts as often as it is met; a slice's spare places count too). A statement '..UptoSaid' is the law's where the arguments, and the package variables that the reading takes, are together of bulk at most 1048576: NARROWER than '..Said'. Prove '..Said' where nothing that the law and all that it calls make is longer than what came in: it says more and counts as full. Else prove '..UptoSaid'. A law counts once. -/
mutual
def uptoBulk {H : Type} : DataW H → Nat
  | .lit (.string bytes) => bytes.length + 1
  | .lit _ => 1
  | .nil => 1
  | .ptr d => uptoBulk d + 1
  | .slice elems spare => uptoBulkAll elems + uptoBulkAll spare + 1
  | .agg parts => uptoBulkAll parts + 1
  | .iface _ d => uptoBulk d + 1
  | .map entries => uptoBulkEntries entries + 1
  | .held _ => 1
def uptoBulkAll {H : Type} : List (DataW H) → Nat
  | [] => 0
  | d :: r => uptoBulk d + uptoBulkAll r
def uptoBulkEntries {H : Type} : List (Lit × DataW H) → Nat
  | [] => 0
  | x :: r => uptoBulkEntry x + uptoBulkEntries r
def uptoBulkEntry {H : Type} : Lit × DataW H → Nat
  | (.string bytes, d) => bytes.length + uptoBulk d + 1
  | (_, d) => uptoBulk d + 1
 end
def uptoSmall : (H : Type) → List (DataW H) → Bool := fun _ ds => decide (uptoBulkAll ds ≤ 1048576)
def OpenSpec.upto (s : _root_.Go.ChangeSpec) : _root_.Go.OpenSpec := { _root_.Go.OpenSpec.ofChange s with cond := some uptoSmall }

/-- 'drosslaw19.ArmstrongIrreducible', WHERE WHAT IT READS IS OF BULK AT MOST 1048576: true; the input reads as it did. -/
def armstrongIrreducibleUptoRow : OpenClaim := { program := "ytjiphhbagdangaa", sum := "f22db40a63a22f29ac6c76d6cdf8755efe0a2cab206757c0440b7c557a0fab1e", func := "dross/drosslaw19.ArmstrongIrreducible", spec := "armstrongIrreducible", unfollowed := true, recurses := true, apart := false, narrowed := true }
def ArmstrongIrreducibleUptoSaid : Prop := armstrongIrreducibleUptoRow.holds Try.pinned (OpenSpec.upto armstrongIrreducibleSpec)

/-- 'drosslaw19.ArmstrongMax', WHERE WHAT IT READS IS OF BULK AT MOST 1048576: true; the input reads as it did. -/
def armstrongMaxUptoRow : OpenClaim := { program := "ytjiphhbagdangaa", sum := "f22db40a63a22f29ac6c76d6cdf8755efe0a2cab206757c0440b7c557a0fab1e", func := "dross/drosslaw19.ArmstrongMax", spec := "armstrongMax", unfollowed := true, recurses := true, apart := false, narrowed := true }
def ArmstrongMaxUptoSaid : Prop := armstrongMaxUptoRow.holds Try.pinned (OpenSpec.upto armstrongMaxSpec)

/-- 'drosslaw19.ArmstrongBuild', WHERE WHAT IT READS IS OF BULK AT MOST 1048576: true; the input reads as it did. -/
def armstrongBuildUptoRow : OpenClaim := { program := "ytjiphhbagdangaa", sum := "f22db40a63a22f29ac6c76d6cdf8755efe0a2cab206757c0440b7c557a0fab1e", func := "dross/drosslaw19.ArmstrongBuild", spec := "armstrongBuild", unfollowed := true, recurses := true, apart := false, narrowed := true }
def ArmstrongBuildUptoSaid : Prop := armstrongBuildUptoRow.holds Try.pinned (OpenSpec.upto armstrongBuildSpec)

/-- 'drosslaw19.ArmstrongMeet', WHERE WHAT IT READS IS OF BULK AT MOST 1048576: true; the input reads as it did. -/
def armstrongMeetUptoRow : OpenClaim := { program := "ytjiphhbagdangaa", sum := "f22db40a63a22f29ac6c76d6cdf8755efe0a2cab206757c0440b7c557a0fab1e", func := "dross/drosslaw19.ArmstrongMeet", spec := "armstrongMeet", unfollowed := true, recurses := true, apart := false, narrowed := true }
def ArmstrongMeetUptoSaid : Prop := armstrongMeetUptoRow.holds Try.pinned (OpenSpec.upto armstrongMeetSpec)

end Rows
end Go.Proofs.Ytjiphhbagdangaa
