/- THE LAW BasisSound HOLDS OF THE PROGRAM FOR EVERY INPUT: the card. Its condition: the table of math/bits is laid as the program's text says. -/
import Derived.Test.YtmiedlcblpiemaaDoorCards
import Derived.Test.YtmiedlcblpiemaaDoorTie
import Derived.WalkKit
import Derived.ProofKit
import Derived.OpenShut
import Derived.Deep.DeepHandedRow
import Derived.Lib.LaidTab
import Derived.Test.YtmiedlcblpiemaaDoorBasisSoundLaw16
set_option linter.all false
namespace Go.Proofs.YtmiedlcblpiemaaDoor.basisSound
open Go.ChangeShapes Go.WideShapes Go.ChangeAt Go.RowKit

theorem own : ownKnob Tryd.prog.godebug = none := by kernel_rfl
theorem gTab : Tryd.prog.globalNamed "math/bits.deBruijn32tab" = some 0 := by kernel_rfl
theorem gTabType : (Tryd.prog.globals[0]?).map (·.type) = some 138 := by kernel_rfl
theorem cellsT : Tryd.prog.cellsOf 138 = 32 := by kernel_rfl
theorem cellsE : Tryd.prog.cellsOf 5 = 1 := by kernel_rfl
theorem table {W : World} (h : laidMetH Tryd.prog Rows.basisSoundRow.laid W) : Lib.TabIs Tryd.prog W "math/bits.deBruijn32tab" .u8 (Own.zeroTab.map fun (x : Nat) => (x : Int)) :=
  Lib.tabIs_of_head (rest := Rows.basisSoundRow.laid.tail) gTab gTabType (t := 138) (e := 5) (n := 32) (by kernel_rfl) (by kernel_rfl) cellsE cellsT h

set_option maxRecDepth 100000 in
theorem contract (H : Type) (enc : TypeId × Value → H) (W : World) (base : Nat) (args : Array Value) (ds gs : List (DataW H)) (before : List MemPlace)
    (hval : ∀ (j : Nat) t v, Tryd.f8.params[j]? = some t → args[j]? = some v → Value.okWide Tryd.prog W .any base t v)
    (hW : DataW.Whole enc Tryd.prog Tryd.f8.params.toList Rows.basisSoundSpec.vars false W args.toList ds gs before) (hL : laidMetH Tryd.prog Rows.basisSoundRow.laid W) :
    Calls Tryd.prog 8 args W fun e W' => ∃ v, e = .returned v ∧ Rows.basisSoundSpec.post enc Tryd.prog Tryd.f8 false true false false W args v W' :=
  Own.row_contract (E := Own.env) (s := Rows.basisSoundSpec) (k := 6) (fd := Tryd.f8) (c := Tryd.f8.body.getD .skip) (ts := [70, 26, 48]) (tb := 4) Own.envOK (by kernel_rfl) (by kernel_rfl) (by kernel_rfl) (fun j => by
      intro h
      have h2 : Own.modeT 8 j = .snap := by kernel_rfl
      have h : Own.modeT 8 j = .inout := h
      cases h2.symm.trans h) (by kernel_rfl) (by kernel_rfl) (by kernel_rfl)
    (fun t ht => by simp only [List.mem_cons, List.not_mem_nil, or_false] at ht; rcases ht with rfl | rfl | rfl <;> kernel_rfl) (by kernel_rfl) (fun t ht => by simp only [List.mem_cons, List.not_mem_nil, or_false] at ht; rcases ht with rfl | rfl | rfl <;> exact ⟨by kernel_rfl, Nat.le_of_ble_eq_true (by kernel_rfl)⟩) rfl
    (fun ds hl => by match ds, hl with
      | [d, e, g], _ => exact ⟨rfl, rfl, rfl⟩) hval hW (Own.good_of_tab rfl gTab (table hL)) (fun xs hx => Own.drosslaw13_BasisSound.law hx)

/-- A WORLD FOR THE WITNESS. -/
def oneCells : DataW Unit → List Value
  | .lit (.int k z) => [.int k z]
  | .agg ds => ds.filterMap fun
    | .lit (.int k z) => some (.int k z)
    | _ => none
  | _ => []
def flatCells : DataW Unit → List Value
  | .agg ds => ds.flatMap oneCells
  | _ => []
def fillIn (cs : List Value) : Obj → Obj
  | .cells _ t frozen => .cells cs.toArray t frozen
  | o => o
noncomputable def laidWorld (os : Os) : World :=
  { World.holding Tryd.prog os ⟨#[], #[], []⟩ with heap := ((World.holding Tryd.prog os ⟨#[], #[], []⟩).heap.modify 0 (fillIn (flatCells Rows.laid_math_bits_deBruijn32tab))) }
def witness : Array Value := #[.agg #[.int .u8 0, .int .u8 0, .slice none 0 0], .agg #[.int .u8 0, .slice none 0 0, .slice none 0 0], .agg #[.int .u8 0, .int .u8 0]]
theorem laid_met (os : Os) : laidMet Tryd.prog Rows.basisSoundRow.laid ((laidWorld os).forCall (fun _ _ => 0) ⟨#[], witness, []⟩).memory :=
  laidMet_of_run' 8 (by kernel_rfl) (by kernel_rfl)
theorem reads (os : Os) {H : Type} (enc : TypeId × Value → H) : ∃ xs places, DataW.whole enc Tryd.prog ((laidWorld os).forCall (fun _ _ => 0) ⟨#[], witness, []⟩).memory Tryd.f8.params.toList Rows.basisSoundSpec.vars false witness.toList 8 = some (xs, [], places) :=
  ⟨[.agg [.lit (.int .u8 0), .lit (.int .u8 0), .nil], .agg [.agg [.lit (.int .u8 0), .nil], .nil], .agg [.lit (.int .u8 0), .lit (.int .u8 0)]], [], by kernel_rfl⟩

set_option maxRecDepth 100000 in
theorem lifted (os : Os) (started : os.Started) (H : Type) (enc : TypeId × Value → H) (F : Stop.Interp) :
    ReturnsInHanded {} Tryd.checked os 8 .any ((OpenSpec.ofChange Rows.basisSoundSpec).preRow enc Tryd.prog Tryd.f8 Rows.basisSoundRow.domain false Rows.basisSoundRow.laid) (((OpenSpec.ofChange Rows.basisSoundSpec).at F).post enc Tryd.prog Tryd.f8 false true false false) := by
  have hx : DataW.whole enc Tryd.prog ((laidWorld os).forCall (fun _ _ => 0) ⟨#[], witness, []⟩).memory Tryd.f8.params.toList Rows.basisSoundSpec.vars false witness.toList 8 = some ([.agg [.lit (.int .u8 0), .lit (.int .u8 0), .nil], .agg [.agg [.lit (.int .u8 0), .nil], .nil], .agg [.lit (.int .u8 0), .lit (.int .u8 0)]], [], []) := by kernel_rfl
  refine returnsInHanded_of_row (C := Tryd.checked) (s := OpenSpec.ofChange Rows.basisSoundSpec) own started (by kernel_rfl) Tryd.func8
    (witness_row_at (enc := enc) (C := Tryd.checked) false (laidWorld os) witness rfl (by kernel_rfl) (by kernel_rfl) (by kernel_rfl)
      (OpenSpec.preRow_of_cond 8 hx (by kernel_rfl) (fun k hk => by cases hk) (by kernel_rfl) (laid_met os))) ?_
  intro W base args ds gs before hval hW _ _ _ hL _ _
  exact contract H enc W base args ds gs before hval hW hL

theorem said : Rows.BasisSoundSaid :=
  OpenClaim.holds_of_cond 8 Tryd.f8 rfl rfl rfl rfl rfl rfl rfl ⟨rfl, rfl, rfl, rfl, rfl⟩ rfl rfl rfl rfl rfl (by kernel_rfl) Tryd.func8 (by kernel_rfl)
    (of_decide_eq_true (by kernel_rfl)) (by unfold Func.isWrapper; first | (rw [if_pos (by decide +kernel)]; kernel_rfl) | (rw [if_neg (by decide +kernel)]; exact ⟨rfl, rfl⟩))
    (fun os started H enc _ F => by rw [OpenClaim.pre_eq_preRow]; exact lifted os started H enc F)

theorem plain (f : FuncId) (fn : Func) (hf : Tryd.pinned.checked.prog.funcNamed "dross/drosslaw13.BasisSound" = some f) (hfn : Tryd.pinned.checked.prog.funcs[f]? = some fn) :
    false = Tryd.pinned.checked.prog.looks [] ∧ ∀ (j : Nat) t, fn.params[j]? = some t → Tryd.pinned.checked.prog.wantsStandIn t = false := by
  obtain rfl : f = 8 := Option.some.inj ((show Tryd.prog.funcNamed "dross/drosslaw13.BasisSound" = some 8 by kernel_rfl).symm.trans hf) |>.symm
  obtain rfl : fn = Tryd.f8 := (Option.some.inj (Tryd.func8.symm.trans hfn)).symm
  refine ⟨by kernel_rfl, fun j t ht => ?_⟩
  have hp : Tryd.f8.params = #[70, 26, 48] := by kernel_rfl
  rw [hp] at ht
  have hm := Array.mem_of_getElem? ht
  have ht : t ∈ [70, 26, 48] := by simpa using hm
  have hall : ∀ t ∈ [70, 26, 48], Tryd.prog.wantsStandIn t = false := fun t ht => by simp only [List.mem_cons, List.not_mem_nil, or_false] at ht; rcases ht with rfl | rfl | rfl <;> kernel_rfl
  exact hall t ht

/-- THE CARD. -/
theorem card : Rows.BasisSoundCardSaid :=
  Claim7.holds_tied_plain_at .later [] _ _ _ _ said (fun _ h => by cases h) (by kernel_rfl) (fun _ h => by cases h) basisSound_row_tie rfl ⟨rfl, rfl⟩ (by kernel_rfl) rfl plain (by kernel_rfl)
end Go.Proofs.YtmiedlcblpiemaaDoor.basisSound
