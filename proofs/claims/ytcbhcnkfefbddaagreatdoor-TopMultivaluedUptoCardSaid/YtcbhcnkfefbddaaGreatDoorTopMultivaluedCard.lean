/- THE LAW TopMultivalued HOLDS OF THE PROGRAM FOR EVERY INPUT WHOSE BULK IS WITHIN THE BOUND: the card. Its condition: the table of math/bits is laid as the program's text says. -/
import Derived.Test.YtcbhcnkfefbddaaGreatDoorCards
import Derived.Test.YtcbhcnkfefbddaaGreatDoorTie
import Derived.WalkKit
import Derived.ProofKit
import Derived.OpenShut
import Derived.Deep.DeepHandedRow
import Derived.Lib.LaidTab
import Derived.JoinedCond
import Derived.Test.YtcbhcnkfefbddaaGreatDoorTopMultivaluedLaw15
set_option linter.all false
namespace Go.Proofs.YtcbhcnkfefbddaaGreatDoor.topMultivalued
open Go.ChangeShapes Go.WideShapes Go.ChangeAt Go.RowKit

theorem HD {H : Type} : ∀ (l : List (DataW H)), Rows.uptoBulkAll l = (l.map Rows.uptoBulk).sum
  | [] => rfl
  | d :: l => by simp only [Rows.uptoBulkAll, List.map_cons, List.sum_cons, HD l]
def U8 (H : Type) : aS.yo H where
  B := Rows.uptoBulk
  one := fun d => by
    cases d with
    | lit l => cases l <;> simp [Rows.uptoBulk]
    | _ => simp [Rows.uptoBulk]
  str := fun bytes => by simp [Rows.uptoBulk]
  slice := fun es sp => by simp only [Rows.uptoBulk, HD es]; omega
  agg := fun ps => by simp only [Rows.uptoBulk, HD ps]; omega
theorem small {H : Type} {az gs : List (DataW H)} (aj : Rows.uptoSmall H (az ++ gs) = true) : (az.map (U8 H).B).sum ≤ 1048576 := by
  have h := of_decide_eq_true aj
  rw [HD, List.map_append, List.sum_append] at h
  show (az.map Rows.uptoBulk).sum ≤ 1048576
  omega

theorem own : ownKnob Tryz.prog.godebug = none := by kernel_rfl
theorem Vs : Tryz.prog.globalNamed "math/bits.deBruijn32tab" = some 0 := by kernel_rfl
theorem ahJ : (Tryz.prog.globals[0]?).map (·.type) = some 169 := by kernel_rfl
theorem agU : Tryz.prog.cellsOf 169 = 32 := by kernel_rfl
theorem agT : Tryz.prog.cellsOf 5 = 1 := by kernel_rfl
theorem table {W : World} (h : laidMetH Tryz.prog Rows.topMultivaluedRow.laid W) : Lib.TabIs Tryz.prog W "math/bits.deBruijn32tab" .u8 (aS.zE.map fun (x : Nat) => (x : Int)) :=
  Lib.tabIs_of_head (rest := Rows.topMultivaluedRow.laid.tail) Vs ahJ (t := 169) (e := 5) (n := 32) (by kernel_rfl) (by kernel_rfl) agT agU h

set_option maxRecDepth 100000 in
theorem DK (H : Type) (enc : TypeId × Value → H) (W : World) (base : Nat) (args : Array Value) (az gs : List (DataW H)) (before : List MemPlace)
    (gI : ∀ (j : Nat) t v, Tryz.f3.params[j]? = some t → args[j]? = some v → Value.okWide Tryz.prog W .any base t v)
    (rN : DataW.Whole enc Tryz.prog Tryz.f3.params.toList Rows.topMultivaluedSpec.vars false W args.toList az gs before) (aj : Rows.uptoSmall H (az ++ gs) = true) (cq : laidMetH Tryz.prog Rows.topMultivaluedRow.laid W) :
    Calls Tryz.prog 3 args W fun e sU => ∃ v, e = .returned v ∧ Rows.topMultivaluedSpec.post enc Tryz.prog Tryz.f3 false true false false W args v sU :=
  aS.alj (U8 H) (E := aS.env) (s := Rows.topMultivaluedSpec) (k := 6) (fd := Tryz.f3) (c := Tryz.f3.body.getD .skip) (ts := [26, 28]) (tb := 4) aS.ahf (by kernel_rfl) (by kernel_rfl) (by kernel_rfl) (fun j => by
      intro h
      have aa : aS.O3 3 j = .snap := by kernel_rfl
      have h : aS.O3 3 j = .eF := h
      cases aa.symm.trans h) (by kernel_rfl) (by kernel_rfl) (by kernel_rfl)
    (fun t al => by simp only [List.mem_cons, List.not_mem_nil, or_false] at al; rcases al with rfl | rfl <;> kernel_rfl) (by kernel_rfl) (fun t al => by simp only [List.mem_cons, List.not_mem_nil, or_false] at al; rcases al with rfl | rfl <;> exact ⟨by kernel_rfl, Nat.le_of_ble_eq_true (by kernel_rfl)⟩) rfl
    (fun az hl => by match az, hl with
      | [d, e], _ => exact ⟨rfl, rfl, rfl⟩) gI rN (aS.ahO rfl Vs (table cq)) (fun xs U hw => aS.HM.law U (Nat.le_trans hw (small aj)))

/-- A WORLD FOR THE WITNESS. -/
def ak7 : DataW Unit → List Value
  | .lit (.int k z) => [.int k z]
  | .agg az => az.filterMap fun
    | .lit (.int k z) => some (.int k z)
    | _ => none
  | _ => []
def ahu : DataW Unit → List Value
  | .agg az => az.flatMap ak7
  | _ => []
def ahs (cs : List Value) : Obj → Obj
  | .cells _ t frozen => .cells cs.toArray t frozen
  | o => o
noncomputable def IU (os : Os) : World :=
  { World.holding Tryz.prog os ⟨#[], #[], []⟩ with heap := ((World.holding Tryz.prog os ⟨#[], #[], []⟩).heap.modify 0 (ahs (ahu Rows.laid_math_bits_deBruijn32tab))) }
def witness : Array Value := #[.agg #[.int .u8 0, .slice none 0 0, .slice none 0 0], .agg #[.int .u8 0, .int .u8 0]]
theorem laid_met (os : Os) : laidMet Tryz.prog Rows.topMultivaluedRow.laid ((IU os).forCall (fun _ _ => 0) ⟨#[], witness, []⟩).memory :=
  laidMet_of_run' 8 (by kernel_rfl) (by kernel_rfl)
theorem reads (os : Os) {H : Type} (enc : TypeId × Value → H) : ∃ xs places, DataW.whole enc Tryz.prog ((IU os).forCall (fun _ _ => 0) ⟨#[], witness, []⟩).memory Tryz.f3.params.toList Rows.topMultivaluedSpec.vars false witness.toList 8 = some (xs, [], places) :=
  ⟨[.agg [.agg [.lit (.int .u8 0), .nil], .nil], .agg [.lit (.int .u8 0), .lit (.int .u8 0)]], [], by kernel_rfl⟩

set_option maxRecDepth 100000 in
theorem lifted (os : Os) (started : os.Started) (H : Type) (enc : TypeId × Value → H) (F : Stop.Interp) :
    ReturnsInHanded {} Tryz.checked os 3 .any ((Rows.OpenSpec.upto Rows.topMultivaluedSpec).preRow enc Tryz.prog Tryz.f3 Rows.topMultivaluedUptoRow.domain false Rows.topMultivaluedUptoRow.laid) (((Rows.OpenSpec.upto Rows.topMultivaluedSpec).at F).post enc Tryz.prog Tryz.f3 false true false false) := by
  have U : DataW.whole enc Tryz.prog ((IU os).forCall (fun _ _ => 0) ⟨#[], witness, []⟩).memory Tryz.f3.params.toList Rows.topMultivaluedSpec.vars false witness.toList 8 = some ([.agg [.agg [.lit (.int .u8 0), .nil], .nil], .agg [.lit (.int .u8 0), .lit (.int .u8 0)]], [], []) := by kernel_rfl
  refine returnsInHanded_of_row (C := Tryz.checked) (s := Rows.OpenSpec.upto Rows.topMultivaluedSpec) own started (by kernel_rfl) Tryz.func3
    (witness_row_at (enc := enc) (C := Tryz.checked) false (IU os) witness rfl (by kernel_rfl) (by kernel_rfl) (by kernel_rfl)
      (OpenSpec.preRow_of_cond 8 U (by kernel_rfl) (fun k aj => by cases aj; kernel_rfl) (by kernel_rfl) (laid_met os))) ?_
  intro W base args az gs before gI rN _ Ia _ cq _ _
  exact DK H enc W base args az gs before gI rN (Ia _ rfl) cq

theorem alq : Rows.TopMultivaluedUptoSaid :=
  OpenClaim.holds_of_cond 3 Tryz.f3 rfl rfl rfl rfl rfl rfl rfl ⟨rfl, rfl, rfl, rfl, rfl⟩ rfl rfl rfl rfl rfl (by kernel_rfl) Tryz.func3 (by kernel_rfl)
    (of_decide_eq_true (by kernel_rfl)) (by unfold Func.isWrapper; first | (rw [if_pos (by decide +kernel)]; kernel_rfl) | (rw [if_neg (by decide +kernel)]; exact ⟨rfl, rfl⟩))
    (fun os started H enc _ F => by rw [OpenClaim.pre_eq_preRow]; exact lifted os started H enc F)

theorem plain (f : FuncId) (fn : Func) (hf : Tryz.pinned.checked.prog.funcNamed "dross/drosstop.TopMultivalued" = some f) (gW : Tryz.pinned.checked.prog.funcs[f]? = some fn) :
    false = Tryz.pinned.checked.prog.looks [] ∧ ∀ (j : Nat) t, fn.params[j]? = some t → Tryz.pinned.checked.prog.wantsStandIn t = false := by
  obtain rfl : f = 3 := Option.some.inj ((show Tryz.prog.funcNamed "dross/drosstop.TopMultivalued" = some 3 by kernel_rfl).symm.trans hf) |>.symm
  obtain rfl : fn = Tryz.f3 := (Option.some.inj (Tryz.func3.symm.trans gW)).symm
  refine ⟨by kernel_rfl, fun j t al => ?_⟩
  have af : Tryz.f3.params = #[26, 28] := by kernel_rfl
  rw [af] at al
  have hm := Array.mem_of_getElem? al
  have al : t ∈ [26, 28] := by simpa using hm
  have fH : ∀ t ∈ [26, 28], Tryz.prog.wantsStandIn t = false := fun t al => by simp only [List.mem_cons, List.not_mem_nil, or_false] at al; rcases al with rfl | rfl <;> kernel_rfl
  exact fH t al

/-- THE CARD. -/
theorem cardU : Rows.TopMultivaluedUptoCardSaid :=
  Claim7.holds_tied_plain_at .later [] _ _ _ _ alq (fun _ h => by cases h) (by kernel_rfl) (fun _ h => by cases h) topMultivaluedUpto_row_tie rfl ⟨rfl, rfl⟩ (by kernel_rfl) rfl plain (by kernel_rfl)
end Go.Proofs.YtcbhcnkfefbddaaGreatDoor.topMultivalued
