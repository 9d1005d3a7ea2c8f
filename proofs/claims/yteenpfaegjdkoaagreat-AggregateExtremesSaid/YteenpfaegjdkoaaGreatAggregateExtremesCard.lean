/- THE LAW AggregateExtremes HOLDS OF THE PROGRAM FOR EVERY INPUT. -/
import Derived.Test.YteenpfaegjdkoaaGreatRows
import Derived.WalkKit
import Derived.ProofKit
import Derived.OpenShut
import Derived.Test.YteenpfaegjdkoaaGreatAggregateExtremesLaw7
import Derived.Test.YteenpfaegjdkoaaGreatOwn34
import Derived.Test.YteenpfaegjdkoaaGreatOwn28
import Derived.Test.YteenpfaegjdkoaaGreatBase5
set_option linter.all false
namespace Go.Proofs.YteenpfaegjdkoaaGreat.aggregateExtremes
open Go.ChangeShapes Go.WideShapes Go.ChangeAt Go.RowKit

theorem own : ownKnob Tryz.prog.godebug = none := by kernel_rfl

set_option maxRecDepth 100000 in
theorem contract (H : Type) (enc : TypeId × Value → H) (W : World) (base : Nat) (args : Array Value) (ds gs : List (DataW H)) (before : List MemPlace)
    (hval : ∀ (j : Nat) t v, Tryz.f3.params[j]? = some t → args[j]? = some v → Value.okWide Tryz.prog W .any base t v)
    (hW : DataW.Whole enc Tryz.prog Tryz.f3.params.toList Rows.aggregateExtremesSpec.vars false W args.toList ds gs before) :
    Calls Tryz.prog 3 args W fun e W' => ∃ v, e = .returned v ∧ Rows.aggregateExtremesSpec.post enc Tryz.prog Tryz.f3 false true false false W args v W' :=
  Own.row_contract (E := Own.env) (s := Rows.aggregateExtremesSpec) (k := 8) (fd := Tryz.f3) (c := Tryz.f3.body.getD .skip) (ts := [30]) (tb := 4) Own.envOK (by kernel_rfl) (by kernel_rfl) (by kernel_rfl) (fun j => by
      intro h
      have : Own.modeT 3 j = .inout := h
      unfold Own.modeT at this
      split at this <;> first | omega | cases this) (by kernel_rfl) (by kernel_rfl) (by kernel_rfl)
    (fun t ht => by simp only [List.mem_cons, List.not_mem_nil, or_false] at ht; subst ht <;> kernel_rfl) (by kernel_rfl) (fun t ht => by simp only [List.mem_cons, List.not_mem_nil, or_false] at ht; subst ht <;> exact ⟨by kernel_rfl, Nat.le_of_ble_eq_true (by kernel_rfl)⟩) rfl
    (fun ds hl => by match ds, hl with
      | [d], _ => exact ⟨rfl, rfl, rfl⟩) hval hW (fun _ _ => trivial) (fun xs hx => Own.drosslaw51_AggregateExtremes.law hx)

set_option maxRecDepth 100000 in
theorem lifted (os : Os) (started : os.Started) (H : Type) (enc : TypeId × Value → H) :
    ReturnsInHanded {} Tryz.checked os 3 .any (Rows.aggregateExtremesSpec.pre6 enc Tryz.prog Tryz.f3 Rows.aggregateExtremesRow.domain false) (Rows.aggregateExtremesSpec.post enc Tryz.prog Tryz.f3 false true false false) := by
  refine returnsInHanded_of_change (C := Tryz.checked) own started (by kernel_rfl) Tryz.func3
    (ChangeSpec.witness6 (enc := enc) (C := Tryz.checked) false ⟨#[], #[.agg #[.string ⟨#[]⟩, .slice none 0 0, .slice none 0 0, .int .u32 0, .slice none 0 0, .int .i64 0, .int .i64 0]], []⟩ 8 (by kernel_rfl) (by kernel_rfl) (by kernel_rfl) (by kernel_rfl)) ?_
  intro W base args ds gs before hval hW _ _
  exact contract H enc W base args ds gs before hval hW

theorem said : Rows.AggregateExtremesSaid :=
  OpenClaim.holds_of_wide 3 Tryz.f3 rfl rfl rfl rfl rfl rfl rfl ⟨rfl, rfl, rfl, rfl, rfl⟩ rfl rfl rfl rfl rfl (by kernel_rfl) Tryz.func3 (by kernel_rfl)
    (of_decide_eq_true (by kernel_rfl)) (by unfold Func.isWrapper; first | (rw [if_pos (by decide +kernel)]; kernel_rfl) | (rw [if_neg (by decide +kernel)]; exact ⟨rfl, rfl⟩))
    (fun os started H enc _ => lifted os started H enc)
end Go.Proofs.YteenpfaegjdkoaaGreat.aggregateExtremes
