/- THE LAW BasisHolds HOLDS OF THE PROGRAM FOR EVERY INPUT: the card. Its condition: the table of math/bits is laid as the program's text says. -/
import Derived.Test.YtmiedlcblpiemaaDoorCards
import Derived.Test.YtmiedlcblpiemaaDoorTie
import Derived.WalkKit
import Derived.ProofKit
import Derived.OpenShut
import Derived.Deep.DeepHandedRow
import Derived.Lib.LaidTab
import Derived.Test.YtmiedlcblpiemaaDoorBasisHoldsLaw15
set_option linter.all false
namespace Go.Proofs.YtmiedlcblpiemaaDoor.basisHolds
open Go.ChangeShapes Go.WideShapes Go.ChangeAt Go.RowKit

theorem own : ownKnob Tryd.prog.godebug = none := by kernel_rfl
theorem gTab : Tryd.prog.globalNamed "math/bits.deBruijn32tab" = some 0 := by kernel_rfl
theorem gTabType : (Tryd.prog.globals[0]?).map (·.type) = some 138 := by kernel_rfl
theorem cellsT : Tryd.prog.cellsOf 138 = 32 := by kernel_rfl
theorem cellsE : Tryd.prog.cellsOf 5 = 1 := by kernel_rfl
theorem table {W : World} (h : laidMetH Tryd.prog Rows.basisHoldsRow.laid W) : Lib.TabIs Tryd.prog W "math/bits.deBruijn32tab" .u8 (Own.zeroTab.map fun (x : Nat) => (x : Int)) :=
  Lib.tabIs_of_head (rest := Rows.basisHoldsRow.laid.tail) gTab gTabType (t := 138) (e := 5) (n := 32) (by kernel_rfl) (by kernel_rfl) cellsE cellsT h

set_option maxRecDepth 100000 in
theorem contract (H : Type) (enc : TypeId × Value → H) (W : World) (base : Nat) (args : Array Value) (ds gs : List (DataW H)) (before : List MemPlace)
    (hval : ∀ (j : Nat) t v, Tryd.f7.params[j]? = some t → args[j]? = some v → Value.okWide Tryd.prog W .any base t v)
    (hW : DataW.Whole enc Tryd.prog Tryd.f7.params.toList Rows.basisHoldsSpec.vars false W args.toList ds gs before) (hL : laidMetH Tryd.prog Rows.basisHoldsRow.laid W) :
    Calls Tryd.prog 7 args W fun e W' => ∃ v, e = .returned v ∧ Rows.basisHoldsSpec.post enc Tryd.prog Tryd.f7 false true false false W args v W' :=
  Own.row_contract (E := Own.env) (s := Rows.basisHoldsSpec) (k := 7) (fd := Tryd.f7) (c := Tryd.f7.body.getD .skip) (ts := [65, 43]) (tb := 4) Own.envOK (by kernel_rfl) (by kernel_rfl) (by kernel_rfl) (fun j => by
      intro h
      have h2 : Own.modeT 7 j = .snap := by kernel_rfl
      have h : Own.modeT 7 j = .inout := h
      cases h2.symm.trans h) (by kernel_rfl) (by kernel_rfl) (by kernel_rfl)
    (fun t ht => by simp only [List.mem_cons, List.not_mem_nil, or_false] at ht; rcases ht with rfl | rfl <;> kernel_rfl) (by kernel_rfl) (fun t ht => by simp only [List.mem_cons, List.not_mem_nil, or_false] at ht; rcases ht with rfl | rfl <;> exact ⟨by kernel_rfl, Nat.le_of_ble_eq_true (by kernel_rfl)⟩) rfl
    (fun ds hl => by match ds, hl with
      | [d, e], _ => exact ⟨rfl, rfl, rfl⟩) hval hW (Own.good_of_tab rfl gTab (table hL)) (fun xs hx => Own.drosslaw13_BasisHolds.law hx)

/-- A WORLD FOR THE WITNESS. -/
def oneCells : DataW Unit → List Value
  | .lit (.int k z) => [.int k z]
  | .agg ds => ds.filterMap fun
    | .lit (.int k z) => some (.int k z)
    | _ => none
  | _ => []
def flatCells : DataW Unit → List Value
  | .agg ds => ds.flatMap oneCells
  | _ => []
def fillIn (cs : List Value) : Obj → Obj
  | .cells _ t frozen => .cells cs.toArray t frozen
  | o => o
noncomputable def laidWorld (os : Os) : World :=
  { World.holding Tryd.prog os ⟨#[], #[], []⟩ with heap := ((World.holding Tryd.prog os ⟨#[], #[], []⟩).heap.modify 0 (fillIn (flatCells Rows.laid_math_bits_deBruijn32tab))) }
def witness : Array Value := #[.agg #[.string ⟨#[]⟩, .slice none 0 0, .slice none 0 0], .agg #[.int .u32 0, .int .u32 0]]
theorem laid_met (os : Os) : laidMet Tryd.prog Rows.basisHoldsRow.laid ((laidWorld os).forCall (fun _ _ => 0) ⟨#[], witness, []⟩).memory :=
  laidMet_of_run' 8 (by kernel_rfl) (by kernel_rfl)
theorem reads (os : Os) {H : Type} (enc : TypeId × Value → H) : ∃ xs places, DataW.whole enc Tryd.prog ((laidWorld os).forCall (fun _ _ => 0) ⟨#[], witness, []⟩).memory Tryd.f7.params.toList Rows.basisHoldsSpec.vars false witness.toList 8 = some (xs, [], places) :=
  ⟨[.agg [.lit (.string []), .nil, .nil], .agg [.lit (.int .u32 0), .lit (.int .u32 0)]], [], by kernel_rfl⟩

set_option maxRecDepth 100000 in
theorem lifted (os : Os) (started : os.Started) (H : Type) (enc : TypeId × Value → H) (F : Stop.Interp) :
    ReturnsInHanded {} Tryd.checked os 7 .any ((OpenSpec.ofChange Rows.basisHoldsSpec).preRow enc Tryd.prog Tryd.f7 Rows.basisHoldsRow.domain false Rows.basisHoldsRow.laid) (((OpenSpec.ofChange Rows.basisHoldsSpec).at F).post enc Tryd.prog Tryd.f7 false true false false) := by
  have hx : DataW.whole enc Tryd.prog ((laidWorld os).forCall (fun _ _ => 0) ⟨#[], witness, []⟩).memory Tryd.f7.params.toList Rows.basisHoldsSpec.vars false witness.toList 8 = some ([.agg [.lit (.string []), .nil, .nil], .agg [.lit (.int .u32 0), .lit (.int .u32 0)]], [], []) := by kernel_rfl
  refine returnsInHanded_of_row (C := Tryd.checked) (s := OpenSpec.ofChange Rows.basisHoldsSpec) own started (by kernel_rfl) Tryd.func7
    (witness_row_at (enc := enc) (C := Tryd.checked) false (laidWorld os) witness rfl (by kernel_rfl) (by kernel_rfl) (by kernel_rfl)
      (OpenSpec.preRow_of_cond 8 hx (by kernel_rfl) (fun k hk => by cases hk) (by kernel_rfl) (laid_met os))) ?_
  intro W base args ds gs before hval hW _ _ _ hL _ _
  exact contract H enc W base args ds gs before hval hW hL

theorem said : Rows.BasisHoldsSaid :=
  OpenClaim.holds_of_cond 7 Tryd.f7 rfl rfl rfl rfl rfl rfl rfl ⟨rfl, rfl, rfl, rfl, rfl⟩ rfl rfl rfl rfl rfl (by kernel_rfl) Tryd.func7 (by kernel_rfl)
    (of_decide_eq_true (by kernel_rfl)) (by unfold Func.isWrapper; first | (rw [if_pos (by decide +kernel)]; kernel_rfl) | (rw [if_neg (by decide +kernel)]; exact ⟨rfl, rfl⟩))
    (fun os started H enc _ F => by rw [OpenClaim.pre_eq_preRow]; exact lifted os started H enc F)

theorem plain (f : FuncId) (fn : Func) (hf : Tryd.pinned.checked.prog.funcNamed "dross/drosslaw13.BasisHolds" = some f) (hfn : Tryd.pinned.checked.prog.funcs[f]? = some fn) :
    false = Tryd.pinned.checked.prog.looks [] ∧ ∀ (j : Nat) t, fn.params[j]? = some t → Tryd.pinned.checked.prog.wantsStandIn t = false := by
  obtain rfl : f = 7 := Option.some.inj ((show Tryd.prog.funcNamed "dross/drosslaw13.BasisHolds" = some 7 by kernel_rfl).symm.trans hf) |>.symm
  obtain rfl : fn = Tryd.f7 := (Option.some.inj (Tryd.func7.symm.trans hfn)).symm
  refine ⟨by kernel_rfl, fun j t ht => ?_⟩
  have hp : Tryd.f7.params = #[65, 43] := by kernel_rfl
  rw [hp] at ht
  have hm := Array.mem_of_getElem? ht
  have ht : t ∈ [65, 43] := by simpa using hm
  have hall : ∀ t ∈ [65, 43], Tryd.prog.wantsStandIn t = false := fun t ht => by simp only [List.mem_cons, List.not_mem_nil, or_false] at ht; rcases ht with rfl | rfl <;> kernel_rfl
  exact hall t ht

/-- THE CARD. -/
theorem card : Rows.BasisHoldsCardSaid :=
  Claim7.holds_tied_plain_at .later [] _ _ _ _ said (fun _ h => by cases h) (by kernel_rfl) (fun _ h => by cases h) basisHolds_row_tie rfl ⟨rfl, rfl⟩ (by kernel_rfl) rfl plain (by kernel_rfl)
end Go.Proofs.YtmiedlcblpiemaaDoor.basisHolds
