/- THE LAW TopTranslations HOLDS OF THE PROGRAM FOR EVERY INPUT: the card. Its condition: the table of math/bits is laid as the program's text says. -/
import Derived.Test.YtockohmmmlhhfabGreatDoorCards
import Derived.Test.YtockohmmmlhhfabGreatDoorTie
import Derived.WalkKit
import Derived.ProofKit
import Derived.OpenShut
import Derived.Deep.DeepHandedRow
import Derived.Lib.LaidTab
import Derived.Test.YtockohmmmlhhfabGreatDoorTopTranslationsLaw14
set_option linter.all false
namespace Go.Proofs.YtockohmmmlhhfabGreatDoor.topTranslations
open Go.ChangeShapes Go.WideShapes Go.ChangeAt Go.RowKit

theorem own : ownKnob Tryz.prog.godebug = none := by kernel_rfl
theorem gTab : Tryz.prog.globalNamed "math/bits.deBruijn32tab" = some 0 := by kernel_rfl
theorem gTabType : (Tryz.prog.globals[0]?).map (·.type) = some 203 := by kernel_rfl
theorem cellsT : Tryz.prog.cellsOf 203 = 32 := by kernel_rfl
theorem cellsE : Tryz.prog.cellsOf 5 = 1 := by kernel_rfl
theorem table {W : World} (h : laidMetH Tryz.prog Rows.topTranslationsRow.laid W) : Lib.TabIs Tryz.prog W "math/bits.deBruijn32tab" .u8 (Own.zeroTab.map fun (x : Nat) => (x : Int)) :=
  Lib.tabIs_of_head (rest := Rows.topTranslationsRow.laid.tail) gTab gTabType (t := 203) (e := 5) (n := 32) (by kernel_rfl) (by kernel_rfl) cellsE cellsT h

set_option maxRecDepth 100000 in
theorem contract (H : Type) (enc : TypeId × Value → H) (W : World) (base : Nat) (args : Array Value) (ds gs : List (DataW H)) (before : List MemPlace)
    (hval : ∀ (j : Nat) t v, Tryz.f3.params[j]? = some t → args[j]? = some v → Value.okWide Tryz.prog W .any base t v)
    (hW : DataW.Whole enc Tryz.prog Tryz.f3.params.toList Rows.topTranslationsSpec.vars false W args.toList ds gs before) (hL : laidMetH Tryz.prog Rows.topTranslationsRow.laid W) :
    Calls Tryz.prog 3 args W fun e W' => ∃ v, e = .returned v ∧ Rows.topTranslationsSpec.post enc Tryz.prog Tryz.f3 false true false false W args v W' :=
  Own.row_contract (E := Own.env) (s := Rows.topTranslationsSpec) (k := 5) (fd := Tryz.f3) (c := Tryz.f3.body.getD .skip) (ts := [24, 27, 29]) (tb := 4) Own.envOK (by kernel_rfl) (by kernel_rfl) (by kernel_rfl) (fun j => by
      intro h
      have h2 : Own.modeT 3 j = .snap := by kernel_rfl
      have h : Own.modeT 3 j = .inout := h
      cases h2.symm.trans h) (by kernel_rfl) (by kernel_rfl) (by kernel_rfl)
    (fun t ht => by simp only [List.mem_cons, List.not_mem_nil, or_false] at ht; rcases ht with rfl | rfl | rfl <;> kernel_rfl) (by kernel_rfl) (fun t ht => by simp only [List.mem_cons, List.not_mem_nil, or_false] at ht; rcases ht with rfl | rfl | rfl <;> exact ⟨by kernel_rfl, Nat.le_of_ble_eq_true (by kernel_rfl)⟩) rfl
    (fun ds hl => by match ds, hl with
      | [d, e, g], _ => exact ⟨rfl, rfl, rfl⟩) hval hW (Own.good_of_tab rfl gTab (table hL)) (fun xs hx => Own.drosstop_TopTranslations.law hx)

/-- A WORLD FOR THE WITNESS. -/
def oneCells : DataW Unit → List Value
  | .lit (.int k z) => [.int k z]
  | .agg ds => ds.filterMap fun
    | .lit (.int k z) => some (.int k z)
    | _ => none
  | _ => []
def flatCells : DataW Unit → List Value
  | .agg ds => ds.flatMap oneCells
  | _ => []
def fillIn (cs : List Value) : Obj → Obj
  | .cells _ t frozen => .cells cs.toArray t frozen
  | o => o
noncomputable def laidWorld (os : Os) : World :=
  { World.holding Tryz.prog os ⟨#[], #[], []⟩ with heap := ((World.holding Tryz.prog os ⟨#[], #[], []⟩).heap.modify 0 (fillIn (flatCells Rows.laid_math_bits_deBruijn32tab))) }
def witness : Array Value := #[.agg #[.int .u8 0, .int .u8 0, .slice none 0 0], .agg #[.int .u8 0, .int .u8 0, .slice none 0 0], .agg #[.slice none 0 0, .slice none 0 0]]
theorem laid_met (os : Os) : laidMet Tryz.prog Rows.topTranslationsRow.laid ((laidWorld os).forCall (fun _ _ => 0) ⟨#[], witness, []⟩).memory :=
  laidMet_of_run' 8 (by kernel_rfl) (by kernel_rfl)
theorem reads (os : Os) {H : Type} (enc : TypeId × Value → H) : ∃ xs places, DataW.whole enc Tryz.prog ((laidWorld os).forCall (fun _ _ => 0) ⟨#[], witness, []⟩).memory Tryz.f3.params.toList Rows.topTranslationsSpec.vars false witness.toList 8 = some (xs, [], places) :=
  ⟨[.agg [.lit (.int .u8 0), .lit (.int .u8 0), .nil], .agg [.lit (.int .u8 0), .lit (.int .u8 0), .nil], .agg [.nil, .nil]], [], by kernel_rfl⟩

set_option maxRecDepth 100000 in
theorem lifted (os : Os) (started : os.Started) (H : Type) (enc : TypeId × Value → H) (F : Stop.Interp) :
    ReturnsInHanded {} Tryz.checked os 3 .any ((OpenSpec.ofChange Rows.topTranslationsSpec).preRow enc Tryz.prog Tryz.f3 Rows.topTranslationsRow.domain false Rows.topTranslationsRow.laid) (((OpenSpec.ofChange Rows.topTranslationsSpec).at F).post enc Tryz.prog Tryz.f3 false true false false) := by
  have hx : DataW.whole enc Tryz.prog ((laidWorld os).forCall (fun _ _ => 0) ⟨#[], witness, []⟩).memory Tryz.f3.params.toList Rows.topTranslationsSpec.vars false witness.toList 8 = some ([.agg [.lit (.int .u8 0), .lit (.int .u8 0), .nil], .agg [.lit (.int .u8 0), .lit (.int .u8 0), .nil], .agg [.nil, .nil]], [], []) := by kernel_rfl
  refine returnsInHanded_of_row (C := Tryz.checked) (s := OpenSpec.ofChange Rows.topTranslationsSpec) own started (by kernel_rfl) Tryz.func3
    (witness_row_at (enc := enc) (C := Tryz.checked) false (laidWorld os) witness rfl (by kernel_rfl) (by kernel_rfl) (by kernel_rfl)
      (OpenSpec.preRow_of_cond 8 hx (by kernel_rfl) (fun k hk => by cases hk) (by kernel_rfl) (laid_met os))) ?_
  intro W base args ds gs before hval hW _ _ _ hL _ _
  exact contract H enc W base args ds gs before hval hW hL

theorem said : Rows.TopTranslationsSaid :=
  OpenClaim.holds_of_cond 3 Tryz.f3 rfl rfl rfl rfl rfl rfl rfl ⟨rfl, rfl, rfl, rfl, rfl⟩ rfl rfl rfl rfl rfl (by kernel_rfl) Tryz.func3 (by kernel_rfl)
    (of_decide_eq_true (by kernel_rfl)) (by unfold Func.isWrapper; first | (rw [if_pos (by decide +kernel)]; kernel_rfl) | (rw [if_neg (by decide +kernel)]; exact ⟨rfl, rfl⟩))
    (fun os started H enc _ F => by rw [OpenClaim.pre_eq_preRow]; exact lifted os started H enc F)

theorem plain (f : FuncId) (fn : Func) (hf : Tryz.pinned.checked.prog.funcNamed "dross/drosstop.TopTranslations" = some f) (hfn : Tryz.pinned.checked.prog.funcs[f]? = some fn) :
    false = Tryz.pinned.checked.prog.looks [] ∧ ∀ (j : Nat) t, fn.params[j]? = some t → Tryz.pinned.checked.prog.wantsStandIn t = false := by
  obtain rfl : f = 3 := Option.some.inj ((show Tryz.prog.funcNamed "dross/drosstop.TopTranslations" = some 3 by kernel_rfl).symm.trans hf) |>.symm
  obtain rfl : fn = Tryz.f3 := (Option.some.inj (Tryz.func3.symm.trans hfn)).symm
  refine ⟨by kernel_rfl, fun j t ht => ?_⟩
  have hp : Tryz.f3.params = #[24, 27, 29] := by kernel_rfl
  rw [hp] at ht
  have hm := Array.mem_of_getElem? ht
  have ht : t ∈ [24, 27, 29] := by simpa using hm
  have hall : ∀ t ∈ [24, 27, 29], Tryz.prog.wantsStandIn t = false := fun t ht => by simp only [List.mem_cons, List.not_mem_nil, or_false] at ht; rcases ht with rfl | rfl | rfl <;> kernel_rfl
  exact hall t ht

/-- THE CARD. -/
theorem card : Rows.TopTranslationsCardSaid :=
  Claim7.holds_tied_plain_at .later [] _ _ _ _ said (fun _ h => by cases h) (by kernel_rfl) (fun _ h => by cases h) topTranslations_row_tie rfl ⟨rfl, rfl⟩ (by kernel_rfl) rfl plain (by kernel_rfl)
end Go.Proofs.YtockohmmmlhhfabGreatDoor.topTranslations
