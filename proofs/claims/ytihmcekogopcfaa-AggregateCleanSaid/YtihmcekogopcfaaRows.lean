/-
  No cell of these rows narrows 'for every input' (looked for: loops, veiled, ifaces, maps, wideKeys, modest, calm, conditions, laid).
  DERIVED. THE GIVEN ROWS OF THIS SEAT. 6 by the template 'for every input the law returns true; each argument reads behind the call as it read before'; 0 by the template 'total and deterministic' (their statements: YtihmcekogopcfaaTotals.lean).
  GIVEN WITH THE SEED: the statements are not yours to turn. If you find one false, say at which input.
  Laid BY PROGRAM, IN A SANDBOX (cutbox-rows.mjs): the forced cells as the released guide's own fill.sh prints them over the translation 39892941cbc684f5… (all of the seat's roots in one cut). By AI agents, Wed Nov 11 2026. No macro, syntax, notation, axiom, sorry.
-/
import Derived.Test.YtihmcekogopcfaaChecked
import GoSem.Claim
import GoSem.ClaimJoined
import GoSem.ClaimMapViews
import Derived.JoinedTies
import Derived.KernelRfl
namespace Go.Proofs.Ytihmcekogopcfaa
/- THE CELL 'sum', in the pinned program and in every row, IS THE sha256 OF THE DUMP (.gsa) THAT YtihmcekogopcfaaProg.lean LOADS. Nothing in Lean hashes anything: it is a label: what it is worth is what the hold of that sum in a sandbox is worth. -/
noncomputable def Try.pinned : Pinned := { name := "ytihmcekogopcfaa", sum := "39892941cbc684f515bf5b708c780ba9ec70a340d2a3a7f832a25c2192c2178e", checked := Try.checked }
namespace Rows
def none {H : Type} : Left H := { results := [], args := [] }

/-- 'drosslaw51.AggregateMany': WHATEVER THE INPUT: true; the input reads as it did. -/
def aggregateManySpec : ChangeSpec := { name := "aggregateMany", fn := fun _ => fun
  | [d1, d2] => { results := [.lit (.bool true)], args := [d1, d2] }
  | _ => none }
def aggregateManyRow : OpenClaim := { program := "ytihmcekogopcfaa", sum := "39892941cbc684f515bf5b708c780ba9ec70a340d2a3a7f832a25c2192c2178e", func := "dross/drosslaw51.AggregateMany", spec := "aggregateMany", inPlace := ["internal/abi.NoEscape", "internal/bytealg.abigen_runtime_cmpstring"], unfollowed := true, recurses := true, apart := false }
def AggregateManySaid : Prop := aggregateManyRow.holds Try.pinned (OpenSpec.ofChange aggregateManySpec)

/-- ITS FALSE NEIGHBOUR: 'it returns false'. Refute it at one input. -/
def aggregateManyWrong : ChangeSpec := { name := "aggregateMany", fn := fun _ => fun
  | [d1, d2] => { results := [.lit (.bool false)], args := [d1, d2] }
  | _ => none }
def AggregateManyWrongFalsely : Prop := aggregateManyRow.holds Try.pinned (OpenSpec.ofChange aggregateManyWrong)

/-- 'drosslaw51.AggregateOf': WHATEVER THE INPUT: true; the input reads as it did. -/
def aggregateOfSpec : ChangeSpec := { name := "aggregateOf", fn := fun _ => fun
  | [d] => { results := [.lit (.bool true)], args := [d] }
  | _ => none }
def aggregateOfRow : OpenClaim := { program := "ytihmcekogopcfaa", sum := "39892941cbc684f515bf5b708c780ba9ec70a340d2a3a7f832a25c2192c2178e", func := "dross/drosslaw51.AggregateOf", spec := "aggregateOf", inPlace := ["internal/abi.NoEscape", "internal/bytealg.abigen_runtime_cmpstring"], unfollowed := true, recurses := true, apart := false }
def AggregateOfSaid : Prop := aggregateOfRow.holds Try.pinned (OpenSpec.ofChange aggregateOfSpec)

/-- ITS FALSE NEIGHBOUR: 'it returns false'. Refute it at one input. -/
def aggregateOfWrong : ChangeSpec := { name := "aggregateOf", fn := fun _ => fun
  | [d] => { results := [.lit (.bool false)], args := [d] }
  | _ => none }
def AggregateOfWrongFalsely : Prop := aggregateOfRow.holds Try.pinned (OpenSpec.ofChange aggregateOfWrong)

/-- 'drosslaw51.AggregateRepairs': WHATEVER THE INPUT: true; the input reads as it did. -/
def aggregateRepairsSpec : ChangeSpec := { name := "aggregateRepairs", fn := fun _ => fun
  | [d] => { results := [.lit (.bool true)], args := [d] }
  | _ => none }
def aggregateRepairsRow : OpenClaim := { program := "ytihmcekogopcfaa", sum := "39892941cbc684f515bf5b708c780ba9ec70a340d2a3a7f832a25c2192c2178e", func := "dross/drosslaw51.AggregateRepairs", spec := "aggregateRepairs", inPlace := ["internal/abi.NoEscape", "internal/bytealg.abigen_runtime_cmpstring"], unfollowed := true, recurses := true, apart := false }
def AggregateRepairsSaid : Prop := aggregateRepairsRow.holds Try.pinned (OpenSpec.ofChange aggregateRepairsSpec)

/-- ITS FALSE NEIGHBOUR: 'it returns false'. Refute it at one input. -/
def aggregateRepairsWrong : ChangeSpec := { name := "aggregateRepairs", fn := fun _ => fun
  | [d] => { results := [.lit (.bool false)], args := [d] }
  | _ => none }
def AggregateRepairsWrongFalsely : Prop := aggregateRepairsRow.holds Try.pinned (OpenSpec.ofChange aggregateRepairsWrong)

/-- 'drosslaw51.AggregateClean': WHATEVER THE INPUT: true; the input reads as it did. -/
def aggregateCleanSpec : ChangeSpec := { name := "aggregateClean", fn := fun _ => fun
  | [d1, d2, d3] => { results := [.lit (.bool true)], args := [d1, d2, d3] }
  | _ => none }
def aggregateCleanRow : OpenClaim := { program := "ytihmcekogopcfaa", sum := "39892941cbc684f515bf5b708c780ba9ec70a340d2a3a7f832a25c2192c2178e", func := "dross/drosslaw51.AggregateClean", spec := "aggregateClean", inPlace := ["internal/abi.NoEscape", "internal/bytealg.abigen_runtime_cmpstring"], unfollowed := true, recurses := true, apart := false }
def AggregateCleanSaid : Prop := aggregateCleanRow.holds Try.pinned (OpenSpec.ofChange aggregateCleanSpec)

/-- ITS FALSE NEIGHBOUR: 'it returns false'. Refute it at one input. -/
def aggregateCleanWrong : ChangeSpec := { name := "aggregateClean", fn := fun _ => fun
  | [d1, d2, d3] => { results := [.lit (.bool false)], args := [d1, d2, d3] }
  | _ => none }
def AggregateCleanWrongFalsely : Prop := aggregateCleanRow.holds Try.pinned (OpenSpec.ofChange aggregateCleanWrong)

/-- 'drosslaw51.AggregateSums': WHATEVER THE INPUT: true; the input reads as it did. -/
def aggregateSumsSpec : ChangeSpec := { name := "aggregateSums", fn := fun _ => fun
  | [d1, d2] => { results := [.lit (.bool true)], args := [d1, d2] }
  | _ => none }
def aggregateSumsRow : OpenClaim := { program := "ytihmcekogopcfaa", sum := "39892941cbc684f515bf5b708c780ba9ec70a340d2a3a7f832a25c2192c2178e", func := "dross/drosslaw51.AggregateSums", spec := "aggregateSums", inPlace := ["internal/abi.NoEscape", "internal/bytealg.abigen_runtime_cmpstring"], unfollowed := true, recurses := true, apart := false }
def AggregateSumsSaid : Prop := aggregateSumsRow.holds Try.pinned (OpenSpec.ofChange aggregateSumsSpec)

/-- ITS FALSE NEIGHBOUR: 'it returns false'. Refute it at one input. -/
def aggregateSumsWrong : ChangeSpec := { name := "aggregateSums", fn := fun _ => fun
  | [d1, d2] => { results := [.lit (.bool false)], args := [d1, d2] }
  | _ => none }
def AggregateSumsWrongFalsely : Prop := aggregateSumsRow.holds Try.pinned (OpenSpec.ofChange aggregateSumsWrong)

/-- 'drosslaw51.AggregateValue': WHATEVER THE INPUT: true; the input reads as it did. -/
def aggregateValueSpec : ChangeSpec := { name := "aggregateValue", fn := fun _ => fun
  | [d] => { results := [.lit (.bool true)], args := [d] }
  | _ => none }
def aggregateValueRow : OpenClaim := { program := "ytihmcekogopcfaa", sum := "39892941cbc684f515bf5b708c780ba9ec70a340d2a3a7f832a25c2192c2178e", func := "dross/drosslaw51.AggregateValue", spec := "aggregateValue", inPlace := ["internal/abi.NoEscape", "internal/bytealg.abigen_runtime_cmpstring"], unfollowed := true, recurses := true, apart := false }
def AggregateValueSaid : Prop := aggregateValueRow.holds Try.pinned (OpenSpec.ofChange aggregateValueSpec)

/-- ITS FALSE NEIGHBOUR: 'it returns false'. Refute it at one input. -/
def aggregateValueWrong : ChangeSpec := { name := "aggregateValue", fn := fun _ => fun
  | [d] => { results := [.lit (.bool false)], args := [d] }
  | _ => none }
def AggregateValueWrongFalsely : Prop := aggregateValueRow.holds Try.pinned (OpenSpec.ofChange aggregateValueWrong)

/- THE SECOND FORM. 'bulk': how many values and letters a reading holds, each counted each time it is reached (what is shared counts as often as it is met; a slice's spare places count too). A statement '..UptoSaid' is the law's where the arguments, and the package variables that the reading takes, are together of bulk at most 1048576: NARROWER than '..Said'. Prove '..Said' where nothing that the law and all that it calls make is longer than what came in: it says more and counts as full. Else prove '..UptoSaid'. A law counts once. -/
mutual
def uptoBulk {H : Type} : DataW H → Nat
  | .lit (.string bytes) => bytes.length + 1
  | .lit _ => 1
  | .nil => 1
  | .ptr d => uptoBulk d + 1
  | .slice elems spare => uptoBulkAll elems + uptoBulkAll spare + 1
  | .agg parts => uptoBulkAll parts + 1
  | .iface _ d => uptoBulk d + 1
  | .map entries => uptoBulkEntries entries + 1
  | .held _ => 1
def uptoBulkAll {H : Type} : List (DataW H) → Nat
  | [] => 0
  | d :: r => uptoBulk d + uptoBulkAll r
def uptoBulkEntries {H : Type} : List (Lit × DataW H) → Nat
  | [] => 0
  | x :: r => uptoBulkEntry x + uptoBulkEntries r
def uptoBulkEntry {H : Type} : Lit × DataW H → Nat
  | (.string bytes, d) => bytes.length + uptoBulk d + 1
  | (_, d) => uptoBulk d + 1
 end
def uptoSmall : (H : Type) → List (DataW H) → Bool := fun _ ds => decide (uptoBulkAll ds ≤ 1048576)
def OpenSpec.upto (s : _root_.Go.ChangeSpec) : _root_.Go.OpenSpec := { _root_.Go.OpenSpec.ofChange s with cond := some uptoSmall }

/-- 'drosslaw51.AggregateMany', WHERE WHAT IT READS IS OF BULK AT MOST 1048576: true; the input reads as it did. -/
def aggregateManyUptoRow : OpenClaim := { program := "ytihmcekogopcfaa", sum := "39892941cbc684f515bf5b708c780ba9ec70a340d2a3a7f832a25c2192c2178e", func := "dross/drosslaw51.AggregateMany", spec := "aggregateMany", inPlace := ["internal/abi.NoEscape", "internal/bytealg.abigen_runtime_cmpstring"], unfollowed := true, recurses := true, apart := false, narrowed := true }
def AggregateManyUptoSaid : Prop := aggregateManyUptoRow.holds Try.pinned (OpenSpec.upto aggregateManySpec)

/-- 'drosslaw51.AggregateOf', WHERE WHAT IT READS IS OF BULK AT MOST 1048576: true; the input reads as it did. -/
def aggregateOfUptoRow : OpenClaim := { program := "ytihmcekogopcfaa", sum := "39892941cbc684f515bf5b708c780ba9ec70a340d2a3a7f832a25c2192c2178e", func := "dross/drosslaw51.AggregateOf", spec := "aggregateOf", inPlace := ["internal/abi.NoEscape", "internal/bytealg.abigen_runtime_cmpstring"], unfollowed := true, recurses := true, apart := false, narrowed := true }
def AggregateOfUptoSaid : Prop := aggregateOfUptoRow.holds Try.pinned (OpenSpec.upto aggregateOfSpec)

/-- 'drosslaw51.AggregateRepairs', WHERE WHAT IT READS IS OF BULK AT MOST 1048576: true; the input reads as it did. -/
def aggregateRepairsUptoRow : OpenClaim := { program := "ytihmcekogopcfaa", sum := "39892941cbc684f515bf5b708c780ba9ec70a340d2a3a7f832a25c2192c2178e", func := "dross/drosslaw51.AggregateRepairs", spec := "aggregateRepairs", inPlace := ["internal/abi.NoEscape", "internal/bytealg.abigen_runtime_cmpstring"], unfollowed := true, recurses := true, apart := false, narrowed := true }
def AggregateRepairsUptoSaid : Prop := aggregateRepairsUptoRow.holds Try.pinned (OpenSpec.upto aggregateRepairsSpec)

/-- 'drosslaw51.AggregateClean', WHERE WHAT IT READS IS OF BULK AT MOST 1048576: true; the input reads as it did. -/
def aggregateCleanUptoRow : OpenClaim := { program := "ytihmcekogopcfaa", sum := "39892941cbc684f515bf5b708c780ba9ec70a340d2a3a7f832a25c2192c2178e", func := "dross/drosslaw51.AggregateClean", spec := "aggregateClean", inPlace := ["internal/abi.NoEscape", "internal/bytealg.abigen_runtime_cmpstring"], unfollowed := true, recurses := true, apart := false, narrowed := true }
def AggregateCleanUptoSaid : Prop := aggregateCleanUptoRow.holds Try.pinned (OpenSpec.upto aggregateCleanSpec)

/-- 'drosslaw51.AggregateSums', WHERE WHAT IT READS IS OF BULK AT MOST 1048576: true; the input reads as it did. -/
def aggregateSumsUptoRow : OpenClaim := { program := "ytihmcekogopcfaa", sum := "39892941cbc684f515bf5b708c780ba9ec70a340d2a3a7f832a25c2192c2178e", func := "dross/drosslaw51.AggregateSums", spec := "aggregateSums", inPlace := ["internal/abi.NoEscape", "internal/bytealg.abigen_runtime_cmpstring"], unfollowed := true, recurses := true, apart := false, narrowed := true }
def AggregateSumsUptoSaid : Prop := aggregateSumsUptoRow.holds Try.pinned (OpenSpec.upto aggregateSumsSpec)

/-- 'drosslaw51.AggregateValue', WHERE WHAT IT READS IS OF BULK AT MOST 1048576: true; the input reads as it did. -/
def aggregateValueUptoRow : OpenClaim := { program := "ytihmcekogopcfaa", sum := "39892941cbc684f515bf5b708c780ba9ec70a340d2a3a7f832a25c2192c2178e", func := "dross/drosslaw51.AggregateValue", spec := "aggregateValue", inPlace := ["internal/abi.NoEscape", "internal/bytealg.abigen_runtime_cmpstring"], unfollowed := true, recurses := true, apart := false, narrowed := true }
def AggregateValueUptoSaid : Prop := aggregateValueUptoRow.holds Try.pinned (OpenSpec.upto aggregateValueSpec)

end Rows
end Go.Proofs.Ytihmcekogopcfaa
