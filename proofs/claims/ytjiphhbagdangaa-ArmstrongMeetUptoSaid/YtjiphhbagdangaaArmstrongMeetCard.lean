/- THE LAW ArmstrongMeet HOLDS OF THE PROGRAM FOR EVERY INPUT WHOSE BULK IS WITHIN THE BOUND. -/
import Derived.Test.YtjiphhbagdangaaRows
import Derived.WalkKit
import Derived.ProofKit
import Derived.OpenShut
import Derived.JoinedCond
import Derived.Test.YtjiphhbagdangaaArmstrongMeetLaw12
import Derived.Test.YtjiphhbagdangaaOwn33
import Derived.Test.YtjiphhbagdangaaOwn34
import Derived.Test.YtjiphhbagdangaaOwn28
import Derived.Test.YtjiphhbagdangaaBase3
set_option linter.all false
namespace Go.Proofs.Ytjiphhbagdangaa.armstrongMeet
open Go.ChangeShapes Go.WideShapes Go.ChangeAt Go.RowKit

theorem all_sum {H : Type} : ∀ (l : List (DataW H)), Rows.uptoBulkAll l = (l.map Rows.uptoBulk).sum
  | [] => rfl
  | d :: l => by simp only [Rows.uptoBulkAll, List.map_cons, List.sum_cons, all_sum l]
def bulk (H : Type) : Own.Bulk H where
  B := Rows.uptoBulk
  one := fun d => by
    cases d with
    | lit l => cases l <;> simp [Rows.uptoBulk]
    | _ => simp [Rows.uptoBulk]
  str := fun bytes => by simp [Rows.uptoBulk]
  slice := fun es sp => by simp only [Rows.uptoBulk, all_sum es]; omega
  agg := fun ps => by simp only [Rows.uptoBulk, all_sum ps]; omega
theorem small {H : Type} {ds gs : List (DataW H)} (hk : Rows.uptoSmall H (ds ++ gs) = true) : (ds.map (bulk H).B).sum ≤ 1048576 := by
  have h := of_decide_eq_true hk
  rw [all_sum, List.map_append, List.sum_append] at h
  show (ds.map Rows.uptoBulk).sum ≤ 1048576
  omega

theorem own : ownKnob Try.prog.godebug = none := by kernel_rfl

set_option maxRecDepth 100000 in
theorem contract (H : Type) (enc : TypeId × Value → H) (W : World) (base : Nat) (args : Array Value) (ds gs : List (DataW H)) (before : List MemPlace)
    (hval : ∀ (j : Nat) t v, Try.f6.params[j]? = some t → args[j]? = some v → Value.okWide Try.prog W .any base t v)
    (hW : DataW.Whole enc Try.prog Try.f6.params.toList Rows.armstrongMeetSpec.vars false W args.toList ds gs before) (hk : Rows.uptoSmall H (ds ++ gs) = true) :
    Calls Try.prog 6 args W fun e W' => ∃ v, e = .returned v ∧ Rows.armstrongMeetSpec.post enc Try.prog Try.f6 false true false false W args v W' :=
  Own.row_contractB (bulk H) (E := Own.env) (s := Rows.armstrongMeetSpec) (k := 5) (fd := Try.f6) (c := Try.f6.body.getD .skip) (ts := [48]) (tb := 4) Own.envOK (by kernel_rfl) (by kernel_rfl) (by kernel_rfl) (fun j => by
      intro h
      have : Own.modeT 6 j = .inout := h
      unfold Own.modeT at this
      split at this <;> first | omega | cases this) (by kernel_rfl) (by kernel_rfl) (by kernel_rfl)
    (fun t ht => by simp only [List.mem_cons, List.not_mem_nil, or_false] at ht; subst ht <;> kernel_rfl) (by kernel_rfl) (fun t ht => by simp only [List.mem_cons, List.not_mem_nil, or_false] at ht; subst ht <;> exact ⟨by kernel_rfl, Nat.le_of_ble_eq_true (by kernel_rfl)⟩) rfl
    (fun ds hl => by match ds, hl with
      | [d], _ => exact ⟨rfl, rfl, rfl⟩) hval hW (fun _ _ => trivial) (fun xs hx hw => Own.drosslaw19_ArmstrongMeet.law hx (Nat.le_trans hw (small hk)))

set_option maxRecDepth 100000 in
theorem lifted (os : Os) (started : os.Started) (H : Type) (enc : TypeId × Value → H) (F : Stop.Interp) :
    ReturnsInHanded {} Try.checked os 6 .any ((Rows.OpenSpec.upto Rows.armstrongMeetSpec).pre6 enc Try.prog Try.f6 Rows.armstrongMeetUptoRow.domain false) (((Rows.OpenSpec.upto Rows.armstrongMeetSpec).at F).post enc Try.prog Try.f6 false true false false) := by
  refine returnsInHanded_of_cond (C := Try.checked) (s := Rows.OpenSpec.upto Rows.armstrongMeetSpec) (k := Rows.uptoSmall) rfl own started (by kernel_rfl) Try.func6
    (OpenSpec.witness (enc := enc) (C := Try.checked) (s := Rows.OpenSpec.upto Rows.armstrongMeetSpec) (k := Rows.uptoSmall) rfl false ⟨#[], #[.agg #[.int .u8 0, .slice none 0 0]], []⟩ 8 (by kernel_rfl) (by kernel_rfl) (by kernel_rfl)
      (x := ([.agg [.lit (.int .u8 0), .nil]], [], [])) (by kernel_rfl) rfl (by kernel_rfl)) ?_
  intro W base args ds gs before hval hW _ hk _
  exact contract H enc W base args ds gs before hval hW hk

theorem saidU : Rows.ArmstrongMeetUptoSaid :=
  OpenClaim.holds_of_cond 6 Try.f6 rfl rfl rfl rfl rfl rfl rfl ⟨rfl, rfl, rfl, rfl, rfl⟩ rfl rfl rfl rfl rfl (by kernel_rfl) Try.func6 (by kernel_rfl)
    (of_decide_eq_true (by kernel_rfl)) (by unfold Func.isWrapper; first | (rw [if_pos (by decide +kernel)]; kernel_rfl) | (rw [if_neg (by decide +kernel)]; exact ⟨rfl, rfl⟩))
    (fun os started H enc _ F => lifted os started H enc F)
end Go.Proofs.Ytjiphhbagdangaa.armstrongMeet
