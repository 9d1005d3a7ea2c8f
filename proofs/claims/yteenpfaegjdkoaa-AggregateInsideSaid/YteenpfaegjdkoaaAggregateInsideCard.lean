/- THE LAW AggregateInside HOLDS OF THE PROGRAM FOR EVERY INPUT. -/
import Derived.Test.YteenpfaegjdkoaaRows
import Derived.WalkKit
import Derived.ProofKit
import Derived.OpenShut
import Derived.Test.YteenpfaegjdkoaaAggregateInsideLaw6
import Derived.Test.YteenpfaegjdkoaaOwn34
import Derived.Test.YteenpfaegjdkoaaOwn28
import Derived.Test.YteenpfaegjdkoaaBase5
set_option linter.all false
namespace Go.Proofs.Yteenpfaegjdkoaa.aggregateInside
open Go.ChangeShapes Go.WideShapes Go.ChangeAt Go.RowKit

theorem own : ownKnob Try.prog.godebug = none := by kernel_rfl

set_option maxRecDepth 100000 in
theorem contract (H : Type) (enc : TypeId × Value → H) (W : World) (base : Nat) (args : Array Value) (ds gs : List (DataW H)) (before : List MemPlace)
    (hval : ∀ (j : Nat) t v, Try.f3.params[j]? = some t → args[j]? = some v → Value.okWide Try.prog W .any base t v)
    (hW : DataW.Whole enc Try.prog Try.f3.params.toList Rows.aggregateInsideSpec.vars false W args.toList ds gs before) :
    Calls Try.prog 3 args W fun e W' => ∃ v, e = .returned v ∧ Rows.aggregateInsideSpec.post enc Try.prog Try.f3 false true false false W args v W' :=
  Own.row_contract (E := Own.env) (s := Rows.aggregateInsideSpec) (k := 5) (fd := Try.f3) (c := Try.f3.body.getD .skip) (ts := [24, 26, 29]) (tb := 4) Own.envOK (by kernel_rfl) (by kernel_rfl) (by kernel_rfl) (fun j => by
      intro h
      have : Own.modeT 3 j = .inout := h
      unfold Own.modeT at this
      split at this <;> first | omega | cases this) (by kernel_rfl) (by kernel_rfl) (by kernel_rfl)
    (fun t ht => by simp only [List.mem_cons, List.not_mem_nil, or_false] at ht; rcases ht with rfl | rfl | rfl <;> kernel_rfl) (by kernel_rfl) (fun t ht => by simp only [List.mem_cons, List.not_mem_nil, or_false] at ht; rcases ht with rfl | rfl | rfl <;> exact ⟨by kernel_rfl, Nat.le_of_ble_eq_true (by kernel_rfl)⟩) rfl
    (fun ds hl => by match ds, hl with
      | [d, e, g], _ => exact ⟨rfl, rfl, rfl⟩) hval hW (fun _ _ => trivial) (fun xs hx => Own.drosslaw51_AggregateInside.law hx)

set_option maxRecDepth 100000 in
theorem lifted (os : Os) (started : os.Started) (H : Type) (enc : TypeId × Value → H) :
    ReturnsInHanded {} Try.checked os 3 .any (Rows.aggregateInsideSpec.pre6 enc Try.prog Try.f3 Rows.aggregateInsideRow.domain false) (Rows.aggregateInsideSpec.post enc Try.prog Try.f3 false true false false) := by
  refine returnsInHanded_of_change (C := Try.checked) own started (by kernel_rfl) Try.func3
    (ChangeSpec.witness6 (enc := enc) (C := Try.checked) false ⟨#[], #[.agg #[.int .u8 0, .int .u8 0, .slice none 0 0], .int .u32 0, .agg #[.slice none 0 0, .int .u8 0, .int .u8 0]], []⟩ 8 (by kernel_rfl) (by kernel_rfl) (by kernel_rfl) (by kernel_rfl)) ?_
  intro W base args ds gs before hval hW _ _
  exact contract H enc W base args ds gs before hval hW

theorem said : Rows.AggregateInsideSaid :=
  OpenClaim.holds_of_wide 3 Try.f3 rfl rfl rfl rfl rfl rfl rfl ⟨rfl, rfl, rfl, rfl, rfl⟩ rfl rfl rfl rfl rfl (by kernel_rfl) Try.func3 (by kernel_rfl)
    (of_decide_eq_true (by kernel_rfl)) (by unfold Func.isWrapper; first | (rw [if_pos (by decide +kernel)]; kernel_rfl) | (rw [if_neg (by decide +kernel)]; exact ⟨rfl, rfl⟩))
    (fun os started H enc _ => lifted os started H enc)
end Go.Proofs.Yteenpfaegjdkoaa.aggregateInside
