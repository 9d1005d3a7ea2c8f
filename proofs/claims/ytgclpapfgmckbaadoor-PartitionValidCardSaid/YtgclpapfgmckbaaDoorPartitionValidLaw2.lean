/- What the functions that the law reaches answer. No conditions. -/
import Derived.Test.YtgclpapfgmckbaaDoorBase6
import Derived.Test.YtgclpapfgmckbaaDoorOwn15
import Derived.Test.YtgclpapfgmckbaaDoorBase2
import Derived.Test.YtgclpapfgmckbaaDoorOwn17
set_option linter.all false

namespace Go.Own
open Go.Proofs D
set_option maxRecDepth 100000
set_option maxHeartbeats 4000000
namespace partition_Valid
noncomputable def B : Code := (Tryd.f15.body).getD .skip
def W : List Nat := [0, 1, 2, 3, 4, 6, 7, 9, 17, 22, 23, 24, 25, 37, 41, 42, 43, 44, 61]
def res (r : Bool) : D × List D := (.lit (.bool r), [])
def C (x0 : api_Partition) (r : Bool) : Prop := Ret env 15 [.agg [.lit (.int .i64 x0.Rows), .sl (x0.Classes.map (eSl (eI .i64)))]] (res r).1 (res r).2
def L1 (x0 : api_Partition) (y3_L1 : List Bool) (y4_L1 : Int) (y24_L1 : Int) (φ : Bool → Prop) : Prop := Pt env 15 W B [1, 1, 1, 1, 0, 1, 0] [(0, .agg [.lit (.int .i64 x0.Rows), .sl (x0.Classes.map (eSl (eI .i64)))]), (1, .box [.lit (.int .i64 x0.Rows), .sl (x0.Classes.map (eSl (eI .i64)))]), (3, .own (y3_L1.map eB)), (4, .lit (.int .i64 y4_L1)), (22, .sl (x0.Classes.map (eSl (eI .i64)))), (23, .lit (.int .i64 ((x0.Classes.length : Int)))), (24, .lit (.int .i64 y24_L1))] (Lv env 15 Tryd.f15 1 res φ)
def L2 (x0 : api_Partition) (y3_L2 : List Bool) (a4 : Int) (a2 : List Int) (y7_L2 : Int) (y24_L2 : Int) (y43_L2 : Int) (φ : Bool → Prop) : Prop := Pt env 15 W B [1, 1, 1, 1, 0, 1, 0, 0, 1, 1, 0, 0, 1, 1, 1, 1, 1, 0] [(0, .agg [.lit (.int .i64 x0.Rows), .sl (x0.Classes.map (eSl (eI .i64)))]), (1, .box [.lit (.int .i64 x0.Rows), .sl (x0.Classes.map (eSl (eI .i64)))]), (3, .own (y3_L2.map eB)), (4, .lit (.int .i64 a4)), (6, .sl (a2.map (eI .i64))), (7, .lit (.int .i64 y7_L2)), (22, .sl (x0.Classes.map (eSl (eI .i64)))), (23, .lit (.int .i64 ((x0.Classes.length : Int)))), (24, .lit (.int .i64 y24_L2)), (41, .sl (a2.map (eI .i64))), (42, .lit (.int .i64 ((a2.length : Int)))), (43, .lit (.int .i64 y43_L2))] (Lv env 15 Tryd.f15 1 res φ)
theorem L1_step (x0 : api_Partition) (y3_L1 : List Bool) (y4_L1 : Int) (y24_L1 : Int) (φ : Bool → Prop) (h :
    (if y24_L1 < (x0.Classes.length : Int) then
      ∃ a2, lget x0.Classes y24_L1 = some a2 ∧
      (if (a2.length : Int) < 2 then
        φ false
      else
        ∃ a4, lget a2 0 = some a4 ∧
        (if a4 ≤ y4_L1 then
          φ false
        else
          partition_Valid.L2 x0 y3_L1 a4 a2 ((-1)) y24_L1 0 φ))
    else
      φ true)) : L1 x0 y3_L1 y4_L1 y24_L1 φ := by
  unfold L1
  refine Pt.loop (p' := [1, 1, 1, 1, 0, 1, 0, 0, 0]) (by kernel_rfl) (by kernel_rfl) ?_
  refine Pt.reg (by kernel_rfl) ?_
  refine AtO.bool (b := (decide (y24_L1 < (x0.Classes.length : Int)))) (by kernel_rfl) (by kernel_rfl) (fun hc => ?_) (fun hc => ?_)
  · have h := ite_t h (of_decide_eq_true hc)
    refine AtO.done (p' := [1, 1, 1, 1, 0, 1, 0, 0, 1, 0]) (F' := [(0, .agg [.lit (.int .i64 x0.Rows), .sl (x0.Classes.map (eSl (eI .i64)))]), (1, .box [.lit (.int .i64 x0.Rows), .sl (x0.Classes.map (eSl (eI .i64)))]), (3, .own (y3_L1.map eB)), (4, .lit (.int .i64 y4_L1)), (22, .sl (x0.Classes.map (eSl (eI .i64)))), (23, .lit (.int .i64 ((x0.Classes.length : Int)))), (24, .lit (.int .i64 y24_L1)), (25, .lit (.bool true))]) (by kernel_rfl) (by kernel_rfl) (by kernel_rfl) ?_
    refine Pt.cond_t (p' := [1, 1, 1, 1, 0, 1, 0, 0, 1, 0, 0]) (F' := [(0, .agg [.lit (.int .i64 x0.Rows), .sl (x0.Classes.map (eSl (eI .i64)))]), (1, .box [.lit (.int .i64 x0.Rows), .sl (x0.Classes.map (eSl (eI .i64)))]), (3, .own (y3_L1.map eB)), (4, .lit (.int .i64 y4_L1)), (22, .sl (x0.Classes.map (eSl (eI .i64)))), (23, .lit (.int .i64 ((x0.Classes.length : Int)))), (24, .lit (.int .i64 y24_L1))]) (y := (.tmp 25)) (by kernel_rfl) (by kernel_rfl) (by kernel_rfl) (by kernel_rfl) ?_
    refine Pt.skip (p' := [1, 1, 1, 1, 0, 1, 0, 0, 1, 1, 0, 0, 0]) (by kernel_rfl) (by kernel_rfl) ?_
    refine Pt.reg (by kernel_rfl) ?_
    obtain ⟨a2, h3, h⟩ := h
    refine AtO.val (by kernel_rfl) (val_idx_sl (t := 29) (x := (.tmp 22)) (ix := (.tmp 24)) (et := 38) (k := 1) (e := (eSl (eI .i64))) (l := x0.Classes) (i := y24_L1) (q := .i64) (a := a2) (by kernel_rfl) (by kernel_rfl) (by kernel_rfl) (by kernel_rfl) (by kernel_rfl) h3 (by kernel_rfl)) ?_
    refine AtO.seg 2 (by kernel_rfl) ?_
    refine AtO.done (p' := [1, 1, 1, 1, 0, 1, 0, 0, 1, 1, 0, 0, 1, 0, 0]) (F' := [(0, .agg [.lit (.int .i64 x0.Rows), .sl (x0.Classes.map (eSl (eI .i64)))]), (1, .box [.lit (.int .i64 x0.Rows), .sl (x0.Classes.map (eSl (eI .i64)))]), (3, .own (y3_L1.map eB)), (4, .lit (.int .i64 y4_L1)), (6, .sl (a2.map (eI .i64))), (22, .sl (x0.Classes.map (eSl (eI .i64)))), (23, .lit (.int .i64 ((x0.Classes.length : Int)))), (24, .lit (.int .i64 y24_L1))]) (by kernel_rfl) (by kernel_rfl) (by kernel_rfl) ?_
    refine Pt.reg (by kernel_rfl) ?_
    refine AtO.seg 1 (by kernel_rfl) ?_
    refine AtO.val (by kernel_rfl) (val_len (x := (.tmp 28)) (t := 38) (et := 3) (d := .sl (a2.map (eI .i64))) (e := (eI .i64)) (l := a2) (by kernel_rfl) (by kernel_rfl) elemsOf_sl (by kernel_rfl)) ?_
    refine AtO.bool (b := (decide ((a2.length : Int) < 2))) (by kernel_rfl) (by kernel_rfl) (fun hc => ?_) (fun hc => ?_)
    · have h := ite_t h (of_decide_eq_true hc)
      refine AtO.seg 7 (by kernel_rfl) ?_
      refine AtO.done (p' := [1, 1, 1, 1, 0, 1, 0, 0, 1, 1, 0, 0, 1, 0, 1]) (F' := [(0, .agg [.lit (.int .i64 x0.Rows), .sl (x0.Classes.map (eSl (eI .i64)))]), (1, .box [.lit (.int .i64 x0.Rows), .sl (x0.Classes.map (eSl (eI .i64)))]), (3, .own (y3_L1.map eB)), (6, .sl (a2.map (eI .i64))), (22, .sl (x0.Classes.map (eSl (eI .i64)))), (23, .lit (.int .i64 ((x0.Classes.length : Int)))), (24, .lit (.int .i64 y24_L1)), (37, .lit (.bool true))]) (by kernel_rfl) (by kernel_rfl) (by kernel_rfl) ?_
      refine Pt.cond_t (p' := [1, 1, 1, 1, 0, 1, 0, 0, 1, 1, 0, 0, 1, 0, 1, 0, 0]) (F' := []) (y := (.tmp 37)) (by kernel_rfl) (by kernel_rfl) (by kernel_rfl) (by kernel_rfl) ?_
      refine Pt.reg (by kernel_rfl) ?_
      refine AtO.seg 1 (by kernel_rfl) ?_
      refine AtO.done (p' := [1, 1, 1, 1, 0, 1, 0, 0, 1, 1, 0, 0, 1, 0, 1, 0, 1]) (F' := [(2, .lit (.bool false))]) (by kernel_rfl) (by kernel_rfl) (by kernel_rfl) ?_
      exact Pt.ret false (by kernel_rfl) (by kernel_rfl) h
    · have h := ite_f h (of_decide_eq_false hc)
      obtain ⟨a4, h5, h⟩ := h
      refine AtO.seg 2 (by kernel_rfl) ?_
      refine AtO.val (by kernel_rfl) (val_idx_sl (t := 38) (x := (.tmp 32)) (ix := (.const (.int .i64 0))) (et := 3) (k := 1) (e := (eI .i64)) (l := a2) (i := 0) (q := .i64) (a := a4) (by kernel_rfl) (by kernel_rfl) (by kernel_rfl) (by kernel_rfl) (by kernel_rfl) h5 (by kernel_rfl)) ?_
      refine AtO.seg 2 (by kernel_rfl) ?_
      refine AtO.bool (b := (decide (a4 ≤ y4_L1))) (by kernel_rfl) (by kernel_rfl) (fun hc => ?_) (fun hc => ?_)
      · have h := ite_t h (of_decide_eq_true hc)
        refine AtO.seg 1 (by kernel_rfl) ?_
        refine AtO.done (p' := [1, 1, 1, 1, 0, 1, 0, 0, 1, 1, 0, 0, 1, 0, 1]) (F' := [(0, .agg [.lit (.int .i64 x0.Rows), .sl (x0.Classes.map (eSl (eI .i64)))]), (1, .box [.lit (.int .i64 x0.Rows), .sl (x0.Classes.map (eSl (eI .i64)))]), (3, .own (y3_L1.map eB)), (6, .sl (a2.map (eI .i64))), (22, .sl (x0.Classes.map (eSl (eI .i64)))), (23, .lit (.int .i64 ((x0.Classes.length : Int)))), (24, .lit (.int .i64 y24_L1)), (37, .lit (.bool true))]) (by kernel_rfl) (by kernel_rfl) (by kernel_rfl) ?_
        refine Pt.cond_t (p' := [1, 1, 1, 1, 0, 1, 0, 0, 1, 1, 0, 0, 1, 0, 1, 0, 0]) (F' := []) (y := (.tmp 37)) (by kernel_rfl) (by kernel_rfl) (by kernel_rfl) (by kernel_rfl) ?_
        refine Pt.reg (by kernel_rfl) ?_
        refine AtO.seg 1 (by kernel_rfl) ?_
        refine AtO.done (p' := [1, 1, 1, 1, 0, 1, 0, 0, 1, 1, 0, 0, 1, 0, 1, 0, 1]) (F' := [(2, .lit (.bool false))]) (by kernel_rfl) (by kernel_rfl) (by kernel_rfl) ?_
        exact Pt.ret false (by kernel_rfl) (by kernel_rfl) h
      · have h := ite_f h (of_decide_eq_false hc)
        refine AtO.seg 1 (by kernel_rfl) ?_
        refine AtO.done (p' := [1, 1, 1, 1, 0, 1, 0, 0, 1, 1, 0, 0, 1, 0, 1]) (F' := [(0, .agg [.lit (.int .i64 x0.Rows), .sl (x0.Classes.map (eSl (eI .i64)))]), (1, .box [.lit (.int .i64 x0.Rows), .sl (x0.Classes.map (eSl (eI .i64)))]), (3, .own (y3_L1.map eB)), (6, .sl (a2.map (eI .i64))), (22, .sl (x0.Classes.map (eSl (eI .i64)))), (23, .lit (.int .i64 ((x0.Classes.length : Int)))), (24, .lit (.int .i64 y24_L1)), (37, .lit (.bool false))]) (by kernel_rfl) (by kernel_rfl) (by kernel_rfl) ?_
        refine Pt.cond_f (p' := [1, 1, 1, 1, 0, 1, 0, 0, 1, 1, 0, 0, 1, 0, 1, 1]) (F' := [(0, .agg [.lit (.int .i64 x0.Rows), .sl (x0.Classes.map (eSl (eI .i64)))]), (1, .box [.lit (.int .i64 x0.Rows), .sl (x0.Classes.map (eSl (eI .i64)))]), (3, .own (y3_L1.map eB)), (6, .sl (a2.map (eI .i64))), (22, .sl (x0.Classes.map (eSl (eI .i64)))), (23, .lit (.int .i64 ((x0.Classes.length : Int)))), (24, .lit (.int .i64 y24_L1))]) (y := (.tmp 37)) (by kernel_rfl) (by kernel_rfl) (by kernel_rfl) (by kernel_rfl) ?_
        refine Pt.skip (p' := [1, 1, 1, 1, 0, 1, 0, 0, 1, 1, 0, 0, 1, 1, 0]) (by kernel_rfl) (by kernel_rfl) ?_
        refine Pt.reg (by kernel_rfl) ?_
        refine AtO.seg 1 (by kernel_rfl) ?_
        refine AtO.val (by kernel_rfl) (val_idx_sl (t := 38) (x := (.tmp 38)) (ix := (.const (.int .i64 0))) (et := 3) (k := 1) (e := (eI .i64)) (l := a2) (i := 0) (q := .i64) (a := a4) (by kernel_rfl) (by kernel_rfl) (by kernel_rfl) (by kernel_rfl) (by kernel_rfl) h5 (by kernel_rfl)) ?_
        refine AtO.seg 2 (by kernel_rfl) ?_
        refine AtO.done (p' := [1, 1, 1, 1, 0, 1, 0, 0, 1, 1, 0, 0, 1, 1, 1, 0]) (F' := [(0, .agg [.lit (.int .i64 x0.Rows), .sl (x0.Classes.map (eSl (eI .i64)))]), (1, .box [.lit (.int .i64 x0.Rows), .sl (x0.Classes.map (eSl (eI .i64)))]), (3, .own (y3_L1.map eB)), (4, .lit (.int .i64 a4)), (6, .sl (a2.map (eI .i64))), (22, .sl (x0.Classes.map (eSl (eI .i64)))), (23, .lit (.int .i64 ((x0.Classes.length : Int)))), (24, .lit (.int .i64 y24_L1))]) (by kernel_rfl) (by kernel_rfl) (by kernel_rfl) ?_
        refine Pt.reg (by kernel_rfl) ?_
        refine AtO.seg 1 (by kernel_rfl) ?_
        refine AtO.done (p' := [1, 1, 1, 1, 0, 1, 0, 0, 1, 1, 0, 0, 1, 1, 1, 1, 0]) (F' := [(0, .agg [.lit (.int .i64 x0.Rows), .sl (x0.Classes.map (eSl (eI .i64)))]), (1, .box [.lit (.int .i64 x0.Rows), .sl (x0.Classes.map (eSl (eI .i64)))]), (3, .own (y3_L1.map eB)), (4, .lit (.int .i64 a4)), (6, .sl (a2.map (eI .i64))), (7, .lit (.int .i64 ((-1)))), (22, .sl (x0.Classes.map (eSl (eI .i64)))), (23, .lit (.int .i64 ((x0.Classes.length : Int)))), (24, .lit (.int .i64 y24_L1))]) (by kernel_rfl) (by kernel_rfl) (by kernel_rfl) ?_
        refine Pt.reg (by kernel_rfl) ?_
        refine AtO.seg 1 (by kernel_rfl) ?_
        refine AtO.val (by kernel_rfl) (val_len (x := (.tmp 41)) (t := 38) (et := 3) (d := .sl (a2.map (eI .i64))) (e := (eI .i64)) (l := a2) (by kernel_rfl) (by kernel_rfl) elemsOf_sl (by kernel_rfl)) ?_
        refine AtO.seg 1 (by kernel_rfl) ?_
        refine AtO.done (p' := [1, 1, 1, 1, 0, 1, 0, 0, 1, 1, 0, 0, 1, 1, 1, 1, 1, 0]) (F' := [(0, .agg [.lit (.int .i64 x0.Rows), .sl (x0.Classes.map (eSl (eI .i64)))]), (1, .box [.lit (.int .i64 x0.Rows), .sl (x0.Classes.map (eSl (eI .i64)))]), (3, .own (y3_L1.map eB)), (4, .lit (.int .i64 a4)), (6, .sl (a2.map (eI .i64))), (7, .lit (.int .i64 ((-1)))), (22, .sl (x0.Classes.map (eSl (eI .i64)))), (23, .lit (.int .i64 ((x0.Classes.length : Int)))), (24, .lit (.int .i64 y24_L1)), (41, .sl (a2.map (eI .i64))), (42, .lit (.int .i64 ((a2.length : Int)))), (43, .lit (.int .i64 0))]) (by kernel_rfl) (by kernel_rfl) (by kernel_rfl) ?_
        exact h
  · have h := ite_f h (of_decide_eq_false hc)
    refine AtO.done (p' := [1, 1, 1, 1, 0, 1, 0, 0, 1, 0]) (F' := [(0, .agg [.lit (.int .i64 x0.Rows), .sl (x0.Classes.map (eSl (eI .i64)))]), (1, .box [.lit (.int .i64 x0.Rows), .sl (x0.Classes.map (eSl (eI .i64)))]), (3, .own (y3_L1.map eB)), (4, .lit (.int .i64 y4_L1)), (22, .sl (x0.Classes.map (eSl (eI .i64)))), (23, .lit (.int .i64 ((x0.Classes.length : Int)))), (24, .lit (.int .i64 y24_L1)), (25, .lit (.bool false))]) (by kernel_rfl) (by kernel_rfl) (by kernel_rfl) ?_
    refine Pt.cond_f (p' := [1, 1, 1, 1, 0, 1, 0, 0, 1, 0, 1]) (F' := []) (y := (.tmp 25)) (by kernel_rfl) (by kernel_rfl) (by kernel_rfl) (by kernel_rfl) ?_
    refine Pt.exit (p' := [1, 1, 1, 1, 1, 0]) (F' := []) (by kernel_rfl) (by kernel_rfl) (by kernel_rfl) ?_
    refine Pt.reg (by kernel_rfl) ?_
    refine AtO.seg 1 (by kernel_rfl) ?_
    refine AtO.done (p' := [1, 1, 1, 1, 1, 1]) (F' := [(2, .lit (.bool true))]) (by kernel_rfl) (by kernel_rfl) (by kernel_rfl) ?_
    exact Pt.ret true (by kernel_rfl) (by kernel_rfl) h
theorem L2_step (x0 : api_Partition) (y3_L2 : List Bool) (a4 : Int) (a2 : List Int) (y7_L2 : Int) (y24_L2 : Int) (y43_L2 : Int) (φ : Bool → Prop) (h :
    (if y43_L2 < (a2.length : Int) then
      ∃ a6, lget a2 y43_L2 = some a6 ∧
      (if a6 ≤ y7_L2 then
        φ false
      else
        (if x0.Rows ≤ a6 then
          φ false
        else
          ∃ a8, lget y3_L2 a6 = some a8 ∧
          (if a8 = true then
            φ false
          else
            partition_Valid.L2 x0 ((lset y3_L2 a6 true)) a4 a2 a6 y24_L2 ((IntKind.wrap .i64 (y43_L2 + 1))) φ)))
    else
      partition_Valid.L1 x0 y3_L2 a4 ((IntKind.wrap .i64 (y24_L2 + 1))) φ)) : L2 x0 y3_L2 a4 a2 y7_L2 y24_L2 y43_L2 φ := by
  unfold L2
  refine Pt.loop (p' := [1, 1, 1, 1, 0, 1, 0, 0, 1, 1, 0, 0, 1, 1, 1, 1, 1, 0, 0, 0]) (by kernel_rfl) (by kernel_rfl) ?_
  refine Pt.reg (by kernel_rfl) ?_
  refine AtO.bool (b := (decide (y43_L2 < (a2.length : Int)))) (by kernel_rfl) (by kernel_rfl) (fun hc => ?_) (fun hc => ?_)
  · have h := ite_t h (of_decide_eq_true hc)
    refine AtO.done (p' := [1, 1, 1, 1, 0, 1, 0, 0, 1, 1, 0, 0, 1, 1, 1, 1, 1, 0, 0, 1, 0]) (F' := [(0, .agg [.lit (.int .i64 x0.Rows), .sl (x0.Classes.map (eSl (eI .i64)))]), (1, .box [.lit (.int .i64 x0.Rows), .sl (x0.Classes.map (eSl (eI .i64)))]), (3, .own (y3_L2.map eB)), (4, .lit (.int .i64 a4)), (6, .sl (a2.map (eI .i64))), (7, .lit (.int .i64 y7_L2)), (22, .sl (x0.Classes.map (eSl (eI .i64)))), (23, .lit (.int .i64 ((x0.Classes.length : Int)))), (24, .lit (.int .i64 y24_L2)), (41, .sl (a2.map (eI .i64))), (42, .lit (.int .i64 ((a2.length : Int)))), (43, .lit (.int .i64 y43_L2)), (44, .lit (.bool true))]) (by kernel_rfl) (by kernel_rfl) (by kernel_rfl) ?_
    refine Pt.cond_t (p' := [1, 1, 1, 1, 0, 1, 0, 0, 1, 1, 0, 0, 1, 1, 1, 1, 1, 0, 0, 1, 0, 0]) (F' := [(0, .agg [.lit (.int .i64 x0.Rows), .sl (x0.Classes.map (eSl (eI .i64)))]), (1, .box [.lit (.int .i64 x0.Rows), .sl (x0.Classes.map (eSl (eI .i64)))]), (3, .own (y3_L2.map eB)), (4, .lit (.int .i64 a4)), (6, .sl (a2.map (eI .i64))), (7, .lit (.int .i64 y7_L2)), (22, .sl (x0.Classes.map (eSl (eI .i64)))), (23, .lit (.int .i64 ((x0.Classes.length : Int)))), (24, .lit (.int .i64 y24_L2)), (41, .sl (a2.map (eI .i64))), (42, .lit (.int .i64 ((a2.length : Int)))), (43, .lit (.int .i64 y43_L2))]) (y := (.tmp 44)) (by kernel_rfl) (by kernel_rfl) (by kernel_rfl) (by kernel_rfl) ?_
    refine Pt.skip (p' := [1, 1, 1, 1, 0, 1, 0, 0, 1, 1, 0, 0, 1, 1, 1, 1, 1, 0, 0, 1, 1, 0, 0, 0]) (by kernel_rfl) (by kernel_rfl) ?_
    refine Pt.reg (by kernel_rfl) ?_
    obtain ⟨a6, h7, h⟩ := h
    refine AtO.val (by kernel_rfl) (val_idx_sl (t := 38) (x := (.tmp 41)) (ix := (.tmp 43)) (et := 3) (k := 1) (e := (eI .i64)) (l := a2) (i := y43_L2) (q := .i64) (a := a6) (by kernel_rfl) (by kernel_rfl) (by kernel_rfl) (by kernel_rfl) (by kernel_rfl) h7 (by kernel_rfl)) ?_
    refine AtO.seg 2 (by kernel_rfl) ?_
    refine AtO.done (p' := [1, 1, 1, 1, 0, 1, 0, 0, 1, 1, 0, 0, 1, 1, 1, 1, 1, 0, 0, 1, 1, 0, 0, 1, 0, 0]) (F' := [(0, .agg [.lit (.int .i64 x0.Rows), .sl (x0.Classes.map (eSl (eI .i64)))]), (1, .box [.lit (.int .i64 x0.Rows), .sl (x0.Classes.map (eSl (eI .i64)))]), (3, .own (y3_L2.map eB)), (4, .lit (.int .i64 a4)), (6, .sl (a2.map (eI .i64))), (7, .lit (.int .i64 y7_L2)), (9, .lit (.int .i64 a6)), (22, .sl (x0.Classes.map (eSl (eI .i64)))), (23, .lit (.int .i64 ((x0.Classes.length : Int)))), (24, .lit (.int .i64 y24_L2)), (41, .sl (a2.map (eI .i64))), (42, .lit (.int .i64 ((a2.length : Int)))), (43, .lit (.int .i64 y43_L2))]) (by kernel_rfl) (by kernel_rfl) (by kernel_rfl) ?_
    refine Pt.reg (by kernel_rfl) ?_
    refine AtO.seg 2 (by kernel_rfl) ?_
    refine AtO.bool (b := (decide (a6 ≤ y7_L2))) (by kernel_rfl) (by kernel_rfl) (fun hc => ?_) (fun hc => ?_)
    · have h := ite_t h (of_decide_eq_true hc)
      refine AtO.seg 12 (by kernel_rfl) ?_
      refine AtO.done (p' := [1, 1, 1, 1, 0, 1, 0, 0, 1, 1, 0, 0, 1, 1, 1, 1, 1, 0, 0, 1, 1, 0, 0, 1, 0, 1]) (F' := [(0, .agg [.lit (.int .i64 x0.Rows), .sl (x0.Classes.map (eSl (eI .i64)))]), (1, .box [.lit (.int .i64 x0.Rows), .sl (x0.Classes.map (eSl (eI .i64)))]), (3, .own (y3_L2.map eB)), (4, .lit (.int .i64 a4)), (6, .sl (a2.map (eI .i64))), (9, .lit (.int .i64 a6)), (22, .sl (x0.Classes.map (eSl (eI .i64)))), (23, .lit (.int .i64 ((x0.Classes.length : Int)))), (24, .lit (.int .i64 y24_L2)), (41, .sl (a2.map (eI .i64))), (42, .lit (.int .i64 ((a2.length : Int)))), (43, .lit (.int .i64 y43_L2)), (61, .lit (.bool true))]) (by kernel_rfl) (by kernel_rfl) (by kernel_rfl) ?_
      refine Pt.cond_t (p' := [1, 1, 1, 1, 0, 1, 0, 0, 1, 1, 0, 0, 1, 1, 1, 1, 1, 0, 0, 1, 1, 0, 0, 1, 0, 1, 0, 0]) (F' := []) (y := (.tmp 61)) (by kernel_rfl) (by kernel_rfl) (by kernel_rfl) (by kernel_rfl) ?_
      refine Pt.reg (by kernel_rfl) ?_
      refine AtO.seg 1 (by kernel_rfl) ?_
      refine AtO.done (p' := [1, 1, 1, 1, 0, 1, 0, 0, 1, 1, 0, 0, 1, 1, 1, 1, 1, 0, 0, 1, 1, 0, 0, 1, 0, 1, 0, 1]) (F' := [(2, .lit (.bool false))]) (by kernel_rfl) (by kernel_rfl) (by kernel_rfl) ?_
      exact Pt.ret false (by kernel_rfl) (by kernel_rfl) h
    · have h := ite_f h (of_decide_eq_false hc)
      refine AtO.seg 4 (by kernel_rfl) ?_
      refine AtO.bool (b := (decide (x0.Rows ≤ a6))) (by kernel_rfl) (by kernel_rfl) (fun hc => ?_) (fun hc => ?_)
      · have h := ite_t h (of_decide_eq_true hc)
        refine AtO.seg 7 (by kernel_rfl) ?_
        refine AtO.done (p' := [1, 1, 1, 1, 0, 1, 0, 0, 1, 1, 0, 0, 1, 1, 1, 1, 1, 0, 0, 1, 1, 0, 0, 1, 0, 1]) (F' := [(0, .agg [.lit (.int .i64 x0.Rows), .sl (x0.Classes.map (eSl (eI .i64)))]), (1, .box [.lit (.int .i64 x0.Rows), .sl (x0.Classes.map (eSl (eI .i64)))]), (3, .own (y3_L2.map eB)), (4, .lit (.int .i64 a4)), (6, .sl (a2.map (eI .i64))), (9, .lit (.int .i64 a6)), (22, .sl (x0.Classes.map (eSl (eI .i64)))), (23, .lit (.int .i64 ((x0.Classes.length : Int)))), (24, .lit (.int .i64 y24_L2)), (41, .sl (a2.map (eI .i64))), (42, .lit (.int .i64 ((a2.length : Int)))), (43, .lit (.int .i64 y43_L2)), (61, .lit (.bool true))]) (by kernel_rfl) (by kernel_rfl) (by kernel_rfl) ?_
        refine Pt.cond_t (p' := [1, 1, 1, 1, 0, 1, 0, 0, 1, 1, 0, 0, 1, 1, 1, 1, 1, 0, 0, 1, 1, 0, 0, 1, 0, 1, 0, 0]) (F' := []) (y := (.tmp 61)) (by kernel_rfl) (by kernel_rfl) (by kernel_rfl) (by kernel_rfl) ?_
        refine Pt.reg (by kernel_rfl) ?_
        refine AtO.seg 1 (by kernel_rfl) ?_
        refine AtO.done (p' := [1, 1, 1, 1, 0, 1, 0, 0, 1, 1, 0, 0, 1, 1, 1, 1, 1, 0, 0, 1, 1, 0, 0, 1, 0, 1, 0, 1]) (F' := [(2, .lit (.bool false))]) (by kernel_rfl) (by kernel_rfl) (by kernel_rfl) ?_
        exact Pt.ret false (by kernel_rfl) (by kernel_rfl) h
      · have h := ite_f h (of_decide_eq_false hc)
        obtain ⟨a8, h9, h⟩ := h
        refine AtO.seg 4 (by kernel_rfl) ?_
        refine AtO.val (by kernel_rfl) (val_idx_ow (s := 3) (ps := []) (t := 70) (x := (.tmp 57)) (ix := (.tmp 58)) (et := 4) (k := 1) (e := eB) (l := y3_L2) (i := a6) (q := .i64) (a := a8) (by kernel_rfl) (by kernel_rfl) (by kernel_rfl) (by kernel_rfl) (by kernel_rfl) (by kernel_rfl) h9 (by kernel_rfl)) ?_
        refine AtO.bool (b := a8) (by kernel_rfl) (val_load_ow (t := 4) (x := (.tmp 59)) (s := 3) (ps := []) (n := (a6.toNat)) (c := 0) (e := eB) (l := y3_L2) (a := a8) (d := .lit (.bool a8)) (by kernel_rfl) (by kernel_rfl) (by kernel_rfl) (by kernel_rfl) (lget_some h9).2 (by kernel_rfl)) (fun hc => ?_) (fun hc => ?_)
        · have h := ite_t h (id hc)
          refine AtO.seg 1 (by kernel_rfl) ?_
          refine AtO.done (p' := [1, 1, 1, 1, 0, 1, 0, 0, 1, 1, 0, 0, 1, 1, 1, 1, 1, 0, 0, 1, 1, 0, 0, 1, 0, 1]) (F' := [(0, .agg [.lit (.int .i64 x0.Rows), .sl (x0.Classes.map (eSl (eI .i64)))]), (1, .box [.lit (.int .i64 x0.Rows), .sl (x0.Classes.map (eSl (eI .i64)))]), (3, .own (y3_L2.map eB)), (4, .lit (.int .i64 a4)), (6, .sl (a2.map (eI .i64))), (9, .lit (.int .i64 a6)), (22, .sl (x0.Classes.map (eSl (eI .i64)))), (23, .lit (.int .i64 ((x0.Classes.length : Int)))), (24, .lit (.int .i64 y24_L2)), (41, .sl (a2.map (eI .i64))), (42, .lit (.int .i64 ((a2.length : Int)))), (43, .lit (.int .i64 y43_L2)), (61, .lit (.bool true))]) (by kernel_rfl) (by kernel_rfl) (by kernel_rfl) ?_
          refine Pt.cond_t (p' := [1, 1, 1, 1, 0, 1, 0, 0, 1, 1, 0, 0, 1, 1, 1, 1, 1, 0, 0, 1, 1, 0, 0, 1, 0, 1, 0, 0]) (F' := []) (y := (.tmp 61)) (by kernel_rfl) (by kernel_rfl) (by kernel_rfl) (by kernel_rfl) ?_
          refine Pt.reg (by kernel_rfl) ?_
          refine AtO.seg 1 (by kernel_rfl) ?_
          refine AtO.done (p' := [1, 1, 1, 1, 0, 1, 0, 0, 1, 1, 0, 0, 1, 1, 1, 1, 1, 0, 0, 1, 1, 0, 0, 1, 0, 1, 0, 1]) (F' := [(2, .lit (.bool false))]) (by kernel_rfl) (by kernel_rfl) (by kernel_rfl) ?_
          exact Pt.ret false (by kernel_rfl) (by kernel_rfl) h
        · have h := ite_f h (fls hc)
          refine AtO.seg 1 (by kernel_rfl) ?_
          refine AtO.done (p' := [1, 1, 1, 1, 0, 1, 0, 0, 1, 1, 0, 0, 1, 1, 1, 1, 1, 0, 0, 1, 1, 0, 0, 1, 0, 1]) (F' := [(0, .agg [.lit (.int .i64 x0.Rows), .sl (x0.Classes.map (eSl (eI .i64)))]), (1, .box [.lit (.int .i64 x0.Rows), .sl (x0.Classes.map (eSl (eI .i64)))]), (3, .own (y3_L2.map eB)), (4, .lit (.int .i64 a4)), (6, .sl (a2.map (eI .i64))), (9, .lit (.int .i64 a6)), (22, .sl (x0.Classes.map (eSl (eI .i64)))), (23, .lit (.int .i64 ((x0.Classes.length : Int)))), (24, .lit (.int .i64 y24_L2)), (41, .sl (a2.map (eI .i64))), (42, .lit (.int .i64 ((a2.length : Int)))), (43, .lit (.int .i64 y43_L2)), (61, .lit (.bool false))]) (by kernel_rfl) (by kernel_rfl) (by kernel_rfl) ?_
          refine Pt.cond_f (p' := [1, 1, 1, 1, 0, 1, 0, 0, 1, 1, 0, 0, 1, 1, 1, 1, 1, 0, 0, 1, 1, 0, 0, 1, 0, 1, 1]) (F' := [(0, .agg [.lit (.int .i64 x0.Rows), .sl (x0.Classes.map (eSl (eI .i64)))]), (1, .box [.lit (.int .i64 x0.Rows), .sl (x0.Classes.map (eSl (eI .i64)))]), (3, .own (y3_L2.map eB)), (4, .lit (.int .i64 a4)), (6, .sl (a2.map (eI .i64))), (9, .lit (.int .i64 a6)), (22, .sl (x0.Classes.map (eSl (eI .i64)))), (23, .lit (.int .i64 ((x0.Classes.length : Int)))), (24, .lit (.int .i64 y24_L2)), (41, .sl (a2.map (eI .i64))), (42, .lit (.int .i64 ((a2.length : Int)))), (43, .lit (.int .i64 y43_L2))]) (y := (.tmp 61)) (by kernel_rfl) (by kernel_rfl) (by kernel_rfl) (by kernel_rfl) ?_
          refine Pt.skip (p' := [1, 1, 1, 1, 0, 1, 0, 0, 1, 1, 0, 0, 1, 1, 1, 1, 1, 0, 0, 1, 1, 0, 0, 1, 1, 0]) (by kernel_rfl) (by kernel_rfl) ?_
          refine Pt.reg (by kernel_rfl) ?_
          refine AtO.seg 2 (by kernel_rfl) ?_
          refine AtO.val (by kernel_rfl) (val_idx_ow (s := 3) (ps := []) (t := 70) (x := (.tmp 62)) (ix := (.tmp 63)) (et := 4) (k := 1) (e := eB) (l := y3_L2) (i := a6) (q := .i64) (a := a8) (by kernel_rfl) (by kernel_rfl) (by kernel_rfl) (by kernel_rfl) (by kernel_rfl) (by kernel_rfl) h9 (by kernel_rfl)) ?_
          refine AtO.op (by kernel_rfl) (store1 (t := 4) (x := (.tmp 64)) (y := (.const (.bool true))) (s := 3) (ps := []) (n := (a6.toNat)) (c := 0) (e := eB) (l := y3_L2) (a := a8) (b := true) (k := 1) (d := .lit (.bool true)) (by kernel_rfl) (by kernel_rfl) (by kernel_rfl) (by kernel_rfl) (lget_some h9).2 (by kernel_rfl) (by kernel_rfl) (by kernel_rfl) (by kernel_rfl) (by kernel_rfl) (setG_eq (by kernel_rfl))) ?_
          refine AtO.done (p' := [1, 1, 1, 1, 0, 1, 0, 0, 1, 1, 0, 0, 1, 1, 1, 1, 1, 0, 0, 1, 1, 0, 0, 1, 1, 1]) (F' := [(0, .agg [.lit (.int .i64 x0.Rows), .sl (x0.Classes.map (eSl (eI .i64)))]), (1, .box [.lit (.int .i64 x0.Rows), .sl (x0.Classes.map (eSl (eI .i64)))]), (3, .own (((lset y3_L2 a6 true)).map eB)), (4, .lit (.int .i64 a4)), (6, .sl (a2.map (eI .i64))), (9, .lit (.int .i64 a6)), (22, .sl (x0.Classes.map (eSl (eI .i64)))), (23, .lit (.int .i64 ((x0.Classes.length : Int)))), (24, .lit (.int .i64 y24_L2)), (41, .sl (a2.map (eI .i64))), (42, .lit (.int .i64 ((a2.length : Int)))), (43, .lit (.int .i64 y43_L2))]) (by kernel_rfl) (by kernel_rfl) (by kernel_rfl) ?_
          refine Pt.reg (by kernel_rfl) ?_
          refine AtO.seg 2 (by kernel_rfl) ?_
          refine AtO.done (p' := [1, 1, 1, 1, 0, 1, 0, 0, 1, 1, 0, 0, 1, 1, 1, 1, 1, 0, 0, 1, 1, 1]) (F' := [(0, .agg [.lit (.int .i64 x0.Rows), .sl (x0.Classes.map (eSl (eI .i64)))]), (1, .box [.lit (.int .i64 x0.Rows), .sl (x0.Classes.map (eSl (eI .i64)))]), (3, .own (((lset y3_L2 a6 true)).map eB)), (4, .lit (.int .i64 a4)), (6, .sl (a2.map (eI .i64))), (7, .lit (.int .i64 a6)), (22, .sl (x0.Classes.map (eSl (eI .i64)))), (23, .lit (.int .i64 ((x0.Classes.length : Int)))), (24, .lit (.int .i64 y24_L2)), (41, .sl (a2.map (eI .i64))), (42, .lit (.int .i64 ((a2.length : Int)))), (43, .lit (.int .i64 y43_L2))]) (by kernel_rfl) (by kernel_rfl) (by kernel_rfl) ?_
          refine Pt.reg (by kernel_rfl) ?_
          refine AtO.seg 2 (by kernel_rfl) ?_
          refine AtO.done (p' := [1, 1, 1, 1, 0, 1, 0, 0, 1, 1, 0, 0, 1, 1, 1, 1, 1, 0]) (F' := [(0, .agg [.lit (.int .i64 x0.Rows), .sl (x0.Classes.map (eSl (eI .i64)))]), (1, .box [.lit (.int .i64 x0.Rows), .sl (x0.Classes.map (eSl (eI .i64)))]), (3, .own (((lset y3_L2 a6 true)).map eB)), (4, .lit (.int .i64 a4)), (6, .sl (a2.map (eI .i64))), (7, .lit (.int .i64 a6)), (22, .sl (x0.Classes.map (eSl (eI .i64)))), (23, .lit (.int .i64 ((x0.Classes.length : Int)))), (24, .lit (.int .i64 y24_L2)), (41, .sl (a2.map (eI .i64))), (42, .lit (.int .i64 ((a2.length : Int)))), (43, .lit (.int .i64 ((IntKind.wrap .i64 (y43_L2 + 1)))))]) (by kernel_rfl) (by kernel_rfl) (by kernel_rfl) ?_
          exact h
  · have h := ite_f h (of_decide_eq_false hc)
    refine AtO.done (p' := [1, 1, 1, 1, 0, 1, 0, 0, 1, 1, 0, 0, 1, 1, 1, 1, 1, 0, 0, 1, 0]) (F' := [(0, .agg [.lit (.int .i64 x0.Rows), .sl (x0.Classes.map (eSl (eI .i64)))]), (1, .box [.lit (.int .i64 x0.Rows), .sl (x0.Classes.map (eSl (eI .i64)))]), (3, .own (y3_L2.map eB)), (4, .lit (.int .i64 a4)), (6, .sl (a2.map (eI .i64))), (7, .lit (.int .i64 y7_L2)), (22, .sl (x0.Classes.map (eSl (eI .i64)))), (23, .lit (.int .i64 ((x0.Classes.length : Int)))), (24, .lit (.int .i64 y24_L2)), (41, .sl (a2.map (eI .i64))), (42, .lit (.int .i64 ((a2.length : Int)))), (43, .lit (.int .i64 y43_L2)), (44, .lit (.bool false))]) (by kernel_rfl) (by kernel_rfl) (by kernel_rfl) ?_
    refine Pt.cond_f (p' := [1, 1, 1, 1, 0, 1, 0, 0, 1, 1, 0, 0, 1, 1, 1, 1, 1, 0, 0, 1, 0, 1]) (F' := [(0, .agg [.lit (.int .i64 x0.Rows), .sl (x0.Classes.map (eSl (eI .i64)))]), (1, .box [.lit (.int .i64 x0.Rows), .sl (x0.Classes.map (eSl (eI .i64)))]), (3, .own (y3_L2.map eB)), (4, .lit (.int .i64 a4)), (22, .sl (x0.Classes.map (eSl (eI .i64)))), (23, .lit (.int .i64 ((x0.Classes.length : Int)))), (24, .lit (.int .i64 y24_L2))]) (y := (.tmp 44)) (by kernel_rfl) (by kernel_rfl) (by kernel_rfl) (by kernel_rfl) ?_
    refine Pt.exit (p' := [1, 1, 1, 1, 0, 1, 0, 0, 1, 1, 1]) (F' := [(0, .agg [.lit (.int .i64 x0.Rows), .sl (x0.Classes.map (eSl (eI .i64)))]), (1, .box [.lit (.int .i64 x0.Rows), .sl (x0.Classes.map (eSl (eI .i64)))]), (3, .own (y3_L2.map eB)), (4, .lit (.int .i64 a4)), (22, .sl (x0.Classes.map (eSl (eI .i64)))), (23, .lit (.int .i64 ((x0.Classes.length : Int)))), (24, .lit (.int .i64 y24_L2))]) (by kernel_rfl) (by kernel_rfl) (by kernel_rfl) ?_
    refine Pt.reg (by kernel_rfl) ?_
    refine AtO.seg 2 (by kernel_rfl) ?_
    refine AtO.done (p' := [1, 1, 1, 1, 0, 1, 0]) (F' := [(0, .agg [.lit (.int .i64 x0.Rows), .sl (x0.Classes.map (eSl (eI .i64)))]), (1, .box [.lit (.int .i64 x0.Rows), .sl (x0.Classes.map (eSl (eI .i64)))]), (3, .own (y3_L2.map eB)), (4, .lit (.int .i64 a4)), (22, .sl (x0.Classes.map (eSl (eI .i64)))), (23, .lit (.int .i64 ((x0.Classes.length : Int)))), (24, .lit (.int .i64 ((IntKind.wrap .i64 (y24_L2 + 1)))))]) (by kernel_rfl) (by kernel_rfl) (by kernel_rfl) ?_
    exact h
theorem enter (x0 : api_Partition) (φ : Bool → Prop) (h :
    (if x0.Rows < 0 then
      φ false
    else
      (if 1000 < x0.Rows then
        φ false
      else
        (0 ≤ x0.Rows ∧ x0.Rows * 1 ≤ 281474976710656) ∧
        partition_Valid.L1 x0 ((List.replicate x0.Rows.toNat false)) ((-1)) 0 φ))) : ∃ r, φ r ∧ C x0 r := by
  refine Ret.of_at (E := env) (f := 15) (fd := Tryd.f15) (body := B) (p := [0]) (V := W) (F := [(0, .agg [.lit (.int .i64 x0.Rows), .sl (x0.Classes.map (eSl (eI .i64)))]), (1, .undef), (2, .undef), (3, .undef), (4, .undef), (6, .undef), (7, .undef), (9, .undef), (17, .undef), (22, .undef), (23, .undef), (24, .undef), (25, .undef), (37, .undef), (41, .undef), (42, .undef), (43, .undef), (44, .undef), (61, .undef)]) (res := res) (φ := φ) (ds := [.agg [.lit (.int .i64 x0.Rows), .sl (x0.Classes.map (eSl (eI .i64)))]]) (by kernel_rfl) (by kernel_rfl) (by kernel_rfl) ⟨Nat.le_of_ble_eq_true (by kernel_rfl), Nat.le_of_ble_eq_true (by kernel_rfl)⟩ (by kernel_rfl) (by kernel_rfl) (by kernel_rfl) ?_
  refine Pt.reg (by kernel_rfl) ?_
  refine AtO.seg 2 (by kernel_rfl) ?_
  refine AtO.done (p' := [1, 0, 0]) (F' := [(0, .agg [.lit (.int .i64 x0.Rows), .sl (x0.Classes.map (eSl (eI .i64)))]), (1, .box [.lit (.int .i64 x0.Rows), .sl (x0.Classes.map (eSl (eI .i64)))])]) (by kernel_rfl) (by kernel_rfl) (by kernel_rfl) ?_
  refine Pt.reg (by kernel_rfl) ?_
  refine AtO.seg 2 (by kernel_rfl) ?_
  refine AtO.bool (b := (decide (x0.Rows < 0))) (by kernel_rfl) (by kernel_rfl) (fun hc => ?_) (fun hc => ?_)
  · have h := ite_t h (of_decide_eq_true hc)
    refine AtO.seg 5 (by kernel_rfl) ?_
    refine AtO.done (p' := [1, 0, 1]) (F' := [(0, .agg [.lit (.int .i64 x0.Rows), .sl (x0.Classes.map (eSl (eI .i64)))]), (1, .box [.lit (.int .i64 x0.Rows), .sl (x0.Classes.map (eSl (eI .i64)))]), (17, .lit (.bool true))]) (by kernel_rfl) (by kernel_rfl) (by kernel_rfl) ?_
    refine Pt.cond_t (p' := [1, 0, 1, 0, 0]) (F' := []) (y := (.tmp 17)) (by kernel_rfl) (by kernel_rfl) (by kernel_rfl) (by kernel_rfl) ?_
    refine Pt.reg (by kernel_rfl) ?_
    refine AtO.seg 1 (by kernel_rfl) ?_
    refine AtO.done (p' := [1, 0, 1, 0, 1]) (F' := [(2, .lit (.bool false))]) (by kernel_rfl) (by kernel_rfl) (by kernel_rfl) ?_
    exact Pt.ret false (by kernel_rfl) (by kernel_rfl) h
  · have h := ite_f h (of_decide_eq_false hc)
    refine AtO.seg 3 (by kernel_rfl) ?_
    refine AtO.bool (b := (decide (1000 < x0.Rows))) (by kernel_rfl) (by kernel_rfl) (fun hc => ?_) (fun hc => ?_)
    · have h := ite_t h (of_decide_eq_true hc)
      refine AtO.seg 1 (by kernel_rfl) ?_
      refine AtO.done (p' := [1, 0, 1]) (F' := [(0, .agg [.lit (.int .i64 x0.Rows), .sl (x0.Classes.map (eSl (eI .i64)))]), (1, .box [.lit (.int .i64 x0.Rows), .sl (x0.Classes.map (eSl (eI .i64)))]), (17, .lit (.bool true))]) (by kernel_rfl) (by kernel_rfl) (by kernel_rfl) ?_
      refine Pt.cond_t (p' := [1, 0, 1, 0, 0]) (F' := []) (y := (.tmp 17)) (by kernel_rfl) (by kernel_rfl) (by kernel_rfl) (by kernel_rfl) ?_
      refine Pt.reg (by kernel_rfl) ?_
      refine AtO.seg 1 (by kernel_rfl) ?_
      refine AtO.done (p' := [1, 0, 1, 0, 1]) (F' := [(2, .lit (.bool false))]) (by kernel_rfl) (by kernel_rfl) (by kernel_rfl) ?_
      exact Pt.ret false (by kernel_rfl) (by kernel_rfl) h
    · have h := ite_f h (of_decide_eq_false hc)
      refine AtO.seg 1 (by kernel_rfl) ?_
      refine AtO.done (p' := [1, 0, 1]) (F' := [(0, .agg [.lit (.int .i64 x0.Rows), .sl (x0.Classes.map (eSl (eI .i64)))]), (1, .box [.lit (.int .i64 x0.Rows), .sl (x0.Classes.map (eSl (eI .i64)))]), (17, .lit (.bool false))]) (by kernel_rfl) (by kernel_rfl) (by kernel_rfl) ?_
      refine Pt.cond_f (p' := [1, 0, 1, 1]) (F' := [(0, .agg [.lit (.int .i64 x0.Rows), .sl (x0.Classes.map (eSl (eI .i64)))]), (1, .box [.lit (.int .i64 x0.Rows), .sl (x0.Classes.map (eSl (eI .i64)))])]) (y := (.tmp 17)) (by kernel_rfl) (by kernel_rfl) (by kernel_rfl) (by kernel_rfl) ?_
      refine Pt.skip (p' := [1, 1, 0]) (by kernel_rfl) (by kernel_rfl) ?_
      refine Pt.reg (by kernel_rfl) ?_
      obtain ⟨h1, h⟩ := h
      refine AtO.seg 2 (by kernel_rfl) ?_
      refine AtO.val (by kernel_rfl) (val_make (t := 70) (x := (.tmp 19)) (y := (.tmp 19)) (q := .i64) (i := x0.Rows) (et := 4) (z := .lit (.bool false)) (e := eB) (a := false) (k := 1) (by kernel_rfl) (by kernel_rfl) (by kernel_rfl) (by kernel_rfl) (by kernel_rfl) (by kernel_rfl) (by kernel_rfl) (by kernel_rfl) (by kernel_rfl) (by kernel_rfl) h1.1 h1.2) ?_
      refine AtO.seg 1 (by kernel_rfl) ?_
      refine AtO.done (p' := [1, 1, 1, 0]) (F' := [(0, .agg [.lit (.int .i64 x0.Rows), .sl (x0.Classes.map (eSl (eI .i64)))]), (1, .box [.lit (.int .i64 x0.Rows), .sl (x0.Classes.map (eSl (eI .i64)))]), (3, .own (((List.replicate x0.Rows.toNat false)).map eB))]) (by kernel_rfl) (by kernel_rfl) (by kernel_rfl) ?_
      refine Pt.reg (by kernel_rfl) ?_
      refine AtO.seg 1 (by kernel_rfl) ?_
      refine AtO.done (p' := [1, 1, 1, 1, 0, 0]) (F' := [(0, .agg [.lit (.int .i64 x0.Rows), .sl (x0.Classes.map (eSl (eI .i64)))]), (1, .box [.lit (.int .i64 x0.Rows), .sl (x0.Classes.map (eSl (eI .i64)))]), (3, .own (((List.replicate x0.Rows.toNat false)).map eB)), (4, .lit (.int .i64 ((-1))))]) (by kernel_rfl) (by kernel_rfl) (by kernel_rfl) ?_
      refine Pt.reg (by kernel_rfl) ?_
      refine AtO.seg 2 (by kernel_rfl) ?_
      refine AtO.val (by kernel_rfl) (val_len (x := (.tmp 22)) (t := 29) (et := 38) (d := .sl (x0.Classes.map (eSl (eI .i64)))) (e := (eSl (eI .i64))) (l := x0.Classes) (by kernel_rfl) (by kernel_rfl) elemsOf_sl (by kernel_rfl)) ?_
      refine AtO.seg 1 (by kernel_rfl) ?_
      refine AtO.done (p' := [1, 1, 1, 1, 0, 1, 0]) (F' := [(0, .agg [.lit (.int .i64 x0.Rows), .sl (x0.Classes.map (eSl (eI .i64)))]), (1, .box [.lit (.int .i64 x0.Rows), .sl (x0.Classes.map (eSl (eI .i64)))]), (3, .own (((List.replicate x0.Rows.toNat false)).map eB)), (4, .lit (.int .i64 ((-1)))), (22, .sl (x0.Classes.map (eSl (eI .i64)))), (23, .lit (.int .i64 ((x0.Classes.length : Int)))), (24, .lit (.int .i64 0))]) (by kernel_rfl) (by kernel_rfl) (by kernel_rfl) ?_
      exact h
end partition_Valid
end Go.Own

namespace Go.Own
open Go.Proofs D
set_option maxRecDepth 100000
set_option maxHeartbeats 4000000
namespace drossref08_Valid
noncomputable def B : Code := (Tryd.f16.body).getD .skip
def W : List Nat := [0, 1, 2, 3, 4, 5, 6, 7, 15, 23, 40, 47, 88]
def res (r : Bool) : D × List D := (.lit (.bool r), [])
def C (x0 : api_Partition) (r : Bool) : Prop := Ret env 16 [.agg [.lit (.int .i64 x0.Rows), .sl (x0.Classes.map (eSl (eI .i64)))]] (res r).1 (res r).2
def L1 (x0 : api_Partition) (y3_L1 : List Bool) (y4_L1 : Int) (y5_L1 : Int) (φ : Bool → Prop) : Prop := Pt env 16 W B [1, 1, 1, 1, 0, 1, 0] [(0, .agg [.lit (.int .i64 x0.Rows), .sl (x0.Classes.map (eSl (eI .i64)))]), (1, .box [.lit (.int .i64 x0.Rows), .sl (x0.Classes.map (eSl (eI .i64)))]), (3, .own (y3_L1.map eB)), (4, .lit (.int .i64 y4_L1)), (5, .lit (.int .i64 y5_L1))] (Lv env 16 Tryd.f16 1 res φ)
def L2 (x0 : api_Partition) (y3_L2 : List Bool) (a4 : Int) (y5_L2 : Int) (a2 : List Int) (y7_L2 : Int) (φ : Bool → Prop) : Prop := Pt env 16 W B [1, 1, 1, 1, 0, 1, 0, 0, 1, 0, 0, 1, 1, 1, 1, 0] [(0, .agg [.lit (.int .i64 x0.Rows), .sl (x0.Classes.map (eSl (eI .i64)))]), (1, .box [.lit (.int .i64 x0.Rows), .sl (x0.Classes.map (eSl (eI .i64)))]), (3, .own (y3_L2.map eB)), (4, .lit (.int .i64 a4)), (5, .lit (.int .i64 y5_L2)), (6, .sl (a2.map (eI .i64))), (7, .lit (.int .i64 y7_L2))] (Lv env 16 Tryd.f16 1 res φ)
def L3 (x0 : api_Partition) (y3_L2 : List Bool) (a4 : Int) (y5_L3 : Int) (a2 : List Int) (y7_L2 : Int) (φ : Bool → Prop) : Prop := Pt env 16 W B [1, 1, 1, 1, 0, 1, 0, 0, 1, 0, 0, 1, 1, 1, 1, 0, 0, 1, 0, 0, 1] [(0, .agg [.lit (.int .i64 x0.Rows), .sl (x0.Classes.map (eSl (eI .i64)))]), (1, .box [.lit (.int .i64 x0.Rows), .sl (x0.Classes.map (eSl (eI .i64)))]), (3, .own (y3_L2.map eB)), (4, .lit (.int .i64 a4)), (5, .lit (.int .i64 y5_L3)), (6, .sl (a2.map (eI .i64))), (7, .lit (.int .i64 y7_L2))] (Lv env 16 Tryd.f16 1 res φ)
theorem L1_step (x0 : api_Partition) (y3_L1 : List Bool) (y4_L1 : Int) (y5_L1 : Int) (φ : Bool → Prop) (h :
    (if y5_L1 < (x0.Classes.length : Int) then
      ∃ a2, lget x0.Classes y5_L1 = some a2 ∧
      (if (a2.length : Int) < 2 then
        φ false
      else
        ∃ a4, lget a2 0 = some a4 ∧
        (if a4 ≤ y4_L1 then
          φ false
        else
          drossref08_Valid.L2 x0 y3_L1 a4 y5_L1 a2 0 φ))
    else
      φ true)) : L1 x0 y3_L1 y4_L1 y5_L1 φ := by
  unfold L1
  refine Pt.loop (p' := [1, 1, 1, 1, 0, 1, 0, 0, 0, 0]) (by kernel_rfl) (by kernel_rfl) ?_
  refine Pt.reg (by kernel_rfl) ?_
  refine AtO.seg 3 (by kernel_rfl) ?_
  refine AtO.val (by kernel_rfl) (val_len (x := (.tmp 21)) (t := 29) (et := 38) (d := .sl (x0.Classes.map (eSl (eI .i64)))) (e := (eSl (eI .i64))) (l := x0.Classes) (by kernel_rfl) (by kernel_rfl) elemsOf_sl (by kernel_rfl)) ?_
  refine AtO.bool (b := (decide (y5_L1 < (x0.Classes.length : Int)))) (by kernel_rfl) (by kernel_rfl) (fun hc => ?_) (fun hc => ?_)
  · have h := ite_t h (of_decide_eq_true hc)
    refine AtO.done (p' := [1, 1, 1, 1, 0, 1, 0, 0, 0, 1]) (F' := [(0, .agg [.lit (.int .i64 x0.Rows), .sl (x0.Classes.map (eSl (eI .i64)))]), (1, .box [.lit (.int .i64 x0.Rows), .sl (x0.Classes.map (eSl (eI .i64)))]), (3, .own (y3_L1.map eB)), (4, .lit (.int .i64 y4_L1)), (5, .lit (.int .i64 y5_L1)), (23, .lit (.bool true))]) (by kernel_rfl) (by kernel_rfl) (by kernel_rfl) ?_
    refine Pt.cond_t (p' := [1, 1, 1, 1, 0, 1, 0, 0, 0, 1, 0]) (F' := [(0, .agg [.lit (.int .i64 x0.Rows), .sl (x0.Classes.map (eSl (eI .i64)))]), (1, .box [.lit (.int .i64 x0.Rows), .sl (x0.Classes.map (eSl (eI .i64)))]), (3, .own (y3_L1.map eB)), (4, .lit (.int .i64 y4_L1)), (5, .lit (.int .i64 y5_L1))]) (y := (.tmp 23)) (by kernel_rfl) (by kernel_rfl) (by kernel_rfl) (by kernel_rfl) ?_
    refine Pt.skip (p' := [1, 1, 1, 1, 0, 1, 0, 0, 1, 0, 0, 0]) (by kernel_rfl) (by kernel_rfl) ?_
    refine Pt.reg (by kernel_rfl) ?_
    obtain ⟨a2, h3, h⟩ := h
    refine AtO.seg 3 (by kernel_rfl) ?_
    refine AtO.val (by kernel_rfl) (val_idx_sl (t := 29) (x := (.tmp 27)) (ix := (.tmp 28)) (et := 38) (k := 1) (e := (eSl (eI .i64))) (l := x0.Classes) (i := y5_L1) (q := .i64) (a := a2) (by kernel_rfl) (by kernel_rfl) (by kernel_rfl) (by kernel_rfl) (by kernel_rfl) h3 (by kernel_rfl)) ?_
    refine AtO.seg 2 (by kernel_rfl) ?_
    refine AtO.done (p' := [1, 1, 1, 1, 0, 1, 0, 0, 1, 0, 0, 1, 0, 0]) (F' := [(0, .agg [.lit (.int .i64 x0.Rows), .sl (x0.Classes.map (eSl (eI .i64)))]), (1, .box [.lit (.int .i64 x0.Rows), .sl (x0.Classes.map (eSl (eI .i64)))]), (3, .own (y3_L1.map eB)), (4, .lit (.int .i64 y4_L1)), (5, .lit (.int .i64 y5_L1)), (6, .sl (a2.map (eI .i64)))]) (by kernel_rfl) (by kernel_rfl) (by kernel_rfl) ?_
    refine Pt.reg (by kernel_rfl) ?_
    refine AtO.seg 1 (by kernel_rfl) ?_
    refine AtO.val (by kernel_rfl) (val_len (x := (.tmp 31)) (t := 38) (et := 3) (d := .sl (a2.map (eI .i64))) (e := (eI .i64)) (l := a2) (by kernel_rfl) (by kernel_rfl) elemsOf_sl (by kernel_rfl)) ?_
    refine AtO.bool (b := (decide ((a2.length : Int) < 2))) (by kernel_rfl) (by kernel_rfl) (fun hc => ?_) (fun hc => ?_)
    · have h := ite_t h (of_decide_eq_true hc)
      refine AtO.seg 7 (by kernel_rfl) ?_
      refine AtO.done (p' := [1, 1, 1, 1, 0, 1, 0, 0, 1, 0, 0, 1, 0, 1]) (F' := [(0, .agg [.lit (.int .i64 x0.Rows), .sl (x0.Classes.map (eSl (eI .i64)))]), (1, .box [.lit (.int .i64 x0.Rows), .sl (x0.Classes.map (eSl (eI .i64)))]), (3, .own (y3_L1.map eB)), (5, .lit (.int .i64 y5_L1)), (6, .sl (a2.map (eI .i64))), (40, .lit (.bool true))]) (by kernel_rfl) (by kernel_rfl) (by kernel_rfl) ?_
      refine Pt.cond_t (p' := [1, 1, 1, 1, 0, 1, 0, 0, 1, 0, 0, 1, 0, 1, 0, 0]) (F' := []) (y := (.tmp 40)) (by kernel_rfl) (by kernel_rfl) (by kernel_rfl) (by kernel_rfl) ?_
      refine Pt.reg (by kernel_rfl) ?_
      refine AtO.seg 1 (by kernel_rfl) ?_
      refine AtO.done (p' := [1, 1, 1, 1, 0, 1, 0, 0, 1, 0, 0, 1, 0, 1, 0, 1]) (F' := [(2, .lit (.bool false))]) (by kernel_rfl) (by kernel_rfl) (by kernel_rfl) ?_
      exact Pt.ret false (by kernel_rfl) (by kernel_rfl) h
    · have h := ite_f h (of_decide_eq_false hc)
      obtain ⟨a4, h5, h⟩ := h
      refine AtO.seg 2 (by kernel_rfl) ?_
      refine AtO.val (by kernel_rfl) (val_idx_sl (t := 38) (x := (.tmp 35)) (ix := (.const (.int .i64 0))) (et := 3) (k := 1) (e := (eI .i64)) (l := a2) (i := 0) (q := .i64) (a := a4) (by kernel_rfl) (by kernel_rfl) (by kernel_rfl) (by kernel_rfl) (by kernel_rfl) h5 (by kernel_rfl)) ?_
      refine AtO.seg 2 (by kernel_rfl) ?_
      refine AtO.bool (b := (decide (a4 ≤ y4_L1))) (by kernel_rfl) (by kernel_rfl) (fun hc => ?_) (fun hc => ?_)
      · have h := ite_t h (of_decide_eq_true hc)
        refine AtO.seg 1 (by kernel_rfl) ?_
        refine AtO.done (p' := [1, 1, 1, 1, 0, 1, 0, 0, 1, 0, 0, 1, 0, 1]) (F' := [(0, .agg [.lit (.int .i64 x0.Rows), .sl (x0.Classes.map (eSl (eI .i64)))]), (1, .box [.lit (.int .i64 x0.Rows), .sl (x0.Classes.map (eSl (eI .i64)))]), (3, .own (y3_L1.map eB)), (5, .lit (.int .i64 y5_L1)), (6, .sl (a2.map (eI .i64))), (40, .lit (.bool true))]) (by kernel_rfl) (by kernel_rfl) (by kernel_rfl) ?_
        refine Pt.cond_t (p' := [1, 1, 1, 1, 0, 1, 0, 0, 1, 0, 0, 1, 0, 1, 0, 0]) (F' := []) (y := (.tmp 40)) (by kernel_rfl) (by kernel_rfl) (by kernel_rfl) (by kernel_rfl) ?_
        refine Pt.reg (by kernel_rfl) ?_
        refine AtO.seg 1 (by kernel_rfl) ?_
        refine AtO.done (p' := [1, 1, 1, 1, 0, 1, 0, 0, 1, 0, 0, 1, 0, 1, 0, 1]) (F' := [(2, .lit (.bool false))]) (by kernel_rfl) (by kernel_rfl) (by kernel_rfl) ?_
        exact Pt.ret false (by kernel_rfl) (by kernel_rfl) h
      · have h := ite_f h (of_decide_eq_false hc)
        refine AtO.seg 1 (by kernel_rfl) ?_
        refine AtO.done (p' := [1, 1, 1, 1, 0, 1, 0, 0, 1, 0, 0, 1, 0, 1]) (F' := [(0, .agg [.lit (.int .i64 x0.Rows), .sl (x0.Classes.map (eSl (eI .i64)))]), (1, .box [.lit (.int .i64 x0.Rows), .sl (x0.Classes.map (eSl (eI .i64)))]), (3, .own (y3_L1.map eB)), (5, .lit (.int .i64 y5_L1)), (6, .sl (a2.map (eI .i64))), (40, .lit (.bool false))]) (by kernel_rfl) (by kernel_rfl) (by kernel_rfl) ?_
        refine Pt.cond_f (p' := [1, 1, 1, 1, 0, 1, 0, 0, 1, 0, 0, 1, 0, 1, 1]) (F' := [(0, .agg [.lit (.int .i64 x0.Rows), .sl (x0.Classes.map (eSl (eI .i64)))]), (1, .box [.lit (.int .i64 x0.Rows), .sl (x0.Classes.map (eSl (eI .i64)))]), (3, .own (y3_L1.map eB)), (5, .lit (.int .i64 y5_L1)), (6, .sl (a2.map (eI .i64)))]) (y := (.tmp 40)) (by kernel_rfl) (by kernel_rfl) (by kernel_rfl) (by kernel_rfl) ?_
        refine Pt.skip (p' := [1, 1, 1, 1, 0, 1, 0, 0, 1, 0, 0, 1, 1, 0]) (by kernel_rfl) (by kernel_rfl) ?_
        refine Pt.reg (by kernel_rfl) ?_
        refine AtO.seg 1 (by kernel_rfl) ?_
        refine AtO.val (by kernel_rfl) (val_idx_sl (t := 38) (x := (.tmp 41)) (ix := (.const (.int .i64 0))) (et := 3) (k := 1) (e := (eI .i64)) (l := a2) (i := 0) (q := .i64) (a := a4) (by kernel_rfl) (by kernel_rfl) (by kernel_rfl) (by kernel_rfl) (by kernel_rfl) h5 (by kernel_rfl)) ?_
        refine AtO.seg 2 (by kernel_rfl) ?_
        refine AtO.done (p' := [1, 1, 1, 1, 0, 1, 0, 0, 1, 0, 0, 1, 1, 1, 0]) (F' := [(0, .agg [.lit (.int .i64 x0.Rows), .sl (x0.Classes.map (eSl (eI .i64)))]), (1, .box [.lit (.int .i64 x0.Rows), .sl (x0.Classes.map (eSl (eI .i64)))]), (3, .own (y3_L1.map eB)), (4, .lit (.int .i64 a4)), (5, .lit (.int .i64 y5_L1)), (6, .sl (a2.map (eI .i64)))]) (by kernel_rfl) (by kernel_rfl) (by kernel_rfl) ?_
        refine Pt.reg (by kernel_rfl) ?_
        refine AtO.seg 1 (by kernel_rfl) ?_
        refine AtO.done (p' := [1, 1, 1, 1, 0, 1, 0, 0, 1, 0, 0, 1, 1, 1, 1, 0]) (F' := [(0, .agg [.lit (.int .i64 x0.Rows), .sl (x0.Classes.map (eSl (eI .i64)))]), (1, .box [.lit (.int .i64 x0.Rows), .sl (x0.Classes.map (eSl (eI .i64)))]), (3, .own (y3_L1.map eB)), (4, .lit (.int .i64 a4)), (5, .lit (.int .i64 y5_L1)), (6, .sl (a2.map (eI .i64))), (7, .lit (.int .i64 0))]) (by kernel_rfl) (by kernel_rfl) (by kernel_rfl) ?_
        exact h
  · have h := ite_f h (of_decide_eq_false hc)
    refine AtO.done (p' := [1, 1, 1, 1, 0, 1, 0, 0, 0, 1]) (F' := [(0, .agg [.lit (.int .i64 x0.Rows), .sl (x0.Classes.map (eSl (eI .i64)))]), (1, .box [.lit (.int .i64 x0.Rows), .sl (x0.Classes.map (eSl (eI .i64)))]), (3, .own (y3_L1.map eB)), (4, .lit (.int .i64 y4_L1)), (5, .lit (.int .i64 y5_L1)), (23, .lit (.bool false))]) (by kernel_rfl) (by kernel_rfl) (by kernel_rfl) ?_
    refine Pt.cond_f (p' := [1, 1, 1, 1, 0, 1, 0, 0, 0, 1, 1]) (F' := []) (y := (.tmp 23)) (by kernel_rfl) (by kernel_rfl) (by kernel_rfl) (by kernel_rfl) ?_
    refine Pt.exit (p' := [1, 1, 1, 1, 1, 0]) (F' := []) (by kernel_rfl) (by kernel_rfl) (by kernel_rfl) ?_
    refine Pt.reg (by kernel_rfl) ?_
    refine AtO.seg 1 (by kernel_rfl) ?_
    refine AtO.done (p' := [1, 1, 1, 1, 1, 1]) (F' := [(2, .lit (.bool true))]) (by kernel_rfl) (by kernel_rfl) (by kernel_rfl) ?_
    exact Pt.ret true (by kernel_rfl) (by kernel_rfl) h
theorem L2_step (x0 : api_Partition) (y3_L2 : List Bool) (a4 : Int) (y5_L2 : Int) (a2 : List Int) (y7_L2 : Int) (φ : Bool → Prop) (h :
    (if y7_L2 < (a2.length : Int) then
      ∃ a6, lget a2 y7_L2 = some a6 ∧
      (if a6 < 0 then
        φ false
      else
        (if x0.Rows ≤ a6 then
          φ false
        else
          ∃ a8, lget y3_L2 a6 = some a8 ∧
          (if a8 = true then
            φ false
          else
            (if 0 < y7_L2 then
              ∃ a10, lget a2 ((IntKind.wrap .i64 (y7_L2 - 1))) = some a10 ∧
              (if a6 ≤ a10 then
                φ false
              else
                drossref08_Valid.L3 x0 y3_L2 a4 y5_L2 a2 y7_L2 φ)
            else
              drossref08_Valid.L3 x0 y3_L2 a4 y5_L2 a2 y7_L2 φ))))
    else
      drossref08_Valid.L1 x0 y3_L2 a4 ((IntKind.wrap .i64 (y5_L2 + 1))) φ)) : L2 x0 y3_L2 a4 y5_L2 a2 y7_L2 φ := by
  unfold L2
  refine Pt.loop (p' := [1, 1, 1, 1, 0, 1, 0, 0, 1, 0, 0, 1, 1, 1, 1, 0, 0, 0, 0]) (by kernel_rfl) (by kernel_rfl) ?_
  refine Pt.reg (by kernel_rfl) ?_
  refine AtO.seg 2 (by kernel_rfl) ?_
  refine AtO.val (by kernel_rfl) (val_len (x := (.tmp 45)) (t := 38) (et := 3) (d := .sl (a2.map (eI .i64))) (e := (eI .i64)) (l := a2) (by kernel_rfl) (by kernel_rfl) elemsOf_sl (by kernel_rfl)) ?_
  refine AtO.bool (b := (decide (y7_L2 < (a2.length : Int)))) (by kernel_rfl) (by kernel_rfl) (fun hc => ?_) (fun hc => ?_)
  · have h := ite_t h (of_decide_eq_true hc)
    refine AtO.done (p' := [1, 1, 1, 1, 0, 1, 0, 0, 1, 0, 0, 1, 1, 1, 1, 0, 0, 0, 1]) (F' := [(0, .agg [.lit (.int .i64 x0.Rows), .sl (x0.Classes.map (eSl (eI .i64)))]), (1, .box [.lit (.int .i64 x0.Rows), .sl (x0.Classes.map (eSl (eI .i64)))]), (3, .own (y3_L2.map eB)), (4, .lit (.int .i64 a4)), (5, .lit (.int .i64 y5_L2)), (6, .sl (a2.map (eI .i64))), (7, .lit (.int .i64 y7_L2)), (47, .lit (.bool true))]) (by kernel_rfl) (by kernel_rfl) (by kernel_rfl) ?_
    refine Pt.cond_t (p' := [1, 1, 1, 1, 0, 1, 0, 0, 1, 0, 0, 1, 1, 1, 1, 0, 0, 0, 1, 0]) (F' := [(0, .agg [.lit (.int .i64 x0.Rows), .sl (x0.Classes.map (eSl (eI .i64)))]), (1, .box [.lit (.int .i64 x0.Rows), .sl (x0.Classes.map (eSl (eI .i64)))]), (3, .own (y3_L2.map eB)), (4, .lit (.int .i64 a4)), (5, .lit (.int .i64 y5_L2)), (6, .sl (a2.map (eI .i64))), (7, .lit (.int .i64 y7_L2))]) (y := (.tmp 47)) (by kernel_rfl) (by kernel_rfl) (by kernel_rfl) (by kernel_rfl) ?_
    refine Pt.skip (p' := [1, 1, 1, 1, 0, 1, 0, 0, 1, 0, 0, 1, 1, 1, 1, 0, 0, 1, 0, 0, 0, 0]) (by kernel_rfl) (by kernel_rfl) ?_
    refine Pt.reg (by kernel_rfl) ?_
    obtain ⟨a6, h7, h⟩ := h
    refine AtO.seg 2 (by kernel_rfl) ?_
    refine AtO.val (by kernel_rfl) (val_idx_sl (t := 38) (x := (.tmp 50)) (ix := (.tmp 51)) (et := 3) (k := 1) (e := (eI .i64)) (l := a2) (i := y7_L2) (q := .i64) (a := a6) (by kernel_rfl) (by kernel_rfl) (by kernel_rfl) (by kernel_rfl) (by kernel_rfl) h7 (by kernel_rfl)) ?_
    refine AtO.seg 1 (by kernel_rfl) ?_
    refine AtO.bool (b := (decide (a6 < 0))) (by kernel_rfl) (by kernel_rfl) (fun hc => ?_) (fun hc => ?_)
    · have h := ite_t h (of_decide_eq_true hc)
      refine AtO.seg 34 (by kernel_rfl) ?_
      refine AtO.done (p' := [1, 1, 1, 1, 0, 1, 0, 0, 1, 0, 0, 1, 1, 1, 1, 0, 0, 1, 0, 0, 0, 1]) (F' := [(0, .agg [.lit (.int .i64 x0.Rows), .sl (x0.Classes.map (eSl (eI .i64)))]), (1, .box [.lit (.int .i64 x0.Rows), .sl (x0.Classes.map (eSl (eI .i64)))]), (3, .own (y3_L2.map eB)), (4, .lit (.int .i64 a4)), (5, .lit (.int .i64 y5_L2)), (6, .sl (a2.map (eI .i64))), (7, .lit (.int .i64 y7_L2)), (88, .lit (.bool true))]) (by kernel_rfl) (by kernel_rfl) (by kernel_rfl) ?_
      refine Pt.cond_t (p' := [1, 1, 1, 1, 0, 1, 0, 0, 1, 0, 0, 1, 1, 1, 1, 0, 0, 1, 0, 0, 0, 1, 0, 0]) (F' := []) (y := (.tmp 88)) (by kernel_rfl) (by kernel_rfl) (by kernel_rfl) (by kernel_rfl) ?_
      refine Pt.reg (by kernel_rfl) ?_
      refine AtO.seg 1 (by kernel_rfl) ?_
      refine AtO.done (p' := [1, 1, 1, 1, 0, 1, 0, 0, 1, 0, 0, 1, 1, 1, 1, 0, 0, 1, 0, 0, 0, 1, 0, 1]) (F' := [(2, .lit (.bool false))]) (by kernel_rfl) (by kernel_rfl) (by kernel_rfl) ?_
      exact Pt.ret false (by kernel_rfl) (by kernel_rfl) h
    · have h := ite_f h (of_decide_eq_false hc)
      refine AtO.seg 3 (by kernel_rfl) ?_
      refine AtO.val (by kernel_rfl) (val_idx_sl (t := 38) (x := (.tmp 56)) (ix := (.tmp 57)) (et := 3) (k := 1) (e := (eI .i64)) (l := a2) (i := y7_L2) (q := .i64) (a := a6) (by kernel_rfl) (by kernel_rfl) (by kernel_rfl) (by kernel_rfl) (by kernel_rfl) h7 (by kernel_rfl)) ?_
      refine AtO.seg 3 (by kernel_rfl) ?_
      refine AtO.bool (b := (decide (x0.Rows ≤ a6))) (by kernel_rfl) (by kernel_rfl) (fun hc => ?_) (fun hc => ?_)
      · have h := ite_t h (of_decide_eq_true hc)
        refine AtO.seg 26 (by kernel_rfl) ?_
        refine AtO.done (p' := [1, 1, 1, 1, 0, 1, 0, 0, 1, 0, 0, 1, 1, 1, 1, 0, 0, 1, 0, 0, 0, 1]) (F' := [(0, .agg [.lit (.int .i64 x0.Rows), .sl (x0.Classes.map (eSl (eI .i64)))]), (1, .box [.lit (.int .i64 x0.Rows), .sl (x0.Classes.map (eSl (eI .i64)))]), (3, .own (y3_L2.map eB)), (4, .lit (.int .i64 a4)), (5, .lit (.int .i64 y5_L2)), (6, .sl (a2.map (eI .i64))), (7, .lit (.int .i64 y7_L2)), (88, .lit (.bool true))]) (by kernel_rfl) (by kernel_rfl) (by kernel_rfl) ?_
        refine Pt.cond_t (p' := [1, 1, 1, 1, 0, 1, 0, 0, 1, 0, 0, 1, 1, 1, 1, 0, 0, 1, 0, 0, 0, 1, 0, 0]) (F' := []) (y := (.tmp 88)) (by kernel_rfl) (by kernel_rfl) (by kernel_rfl) (by kernel_rfl) ?_
        refine Pt.reg (by kernel_rfl) ?_
        refine AtO.seg 1 (by kernel_rfl) ?_
        refine AtO.done (p' := [1, 1, 1, 1, 0, 1, 0, 0, 1, 0, 0, 1, 1, 1, 1, 0, 0, 1, 0, 0, 0, 1, 0, 1]) (F' := [(2, .lit (.bool false))]) (by kernel_rfl) (by kernel_rfl) (by kernel_rfl) ?_
        exact Pt.ret false (by kernel_rfl) (by kernel_rfl) h
      · have h := ite_f h (of_decide_eq_false hc)
        refine AtO.seg 5 (by kernel_rfl) ?_
        refine AtO.val (by kernel_rfl) (val_idx_sl (t := 38) (x := (.tmp 66)) (ix := (.tmp 67)) (et := 3) (k := 1) (e := (eI .i64)) (l := a2) (i := y7_L2) (q := .i64) (a := a6) (by kernel_rfl) (by kernel_rfl) (by kernel_rfl) (by kernel_rfl) (by kernel_rfl) h7 (by kernel_rfl)) ?_
        obtain ⟨a8, h9, h⟩ := h
        refine AtO.seg 1 (by kernel_rfl) ?_
        refine AtO.val (by kernel_rfl) (val_idx_ow (s := 3) (ps := []) (t := 70) (x := (.tmp 65)) (ix := (.tmp 69)) (et := 4) (k := 1) (e := eB) (l := y3_L2) (i := a6) (q := .i64) (a := a8) (by kernel_rfl) (by kernel_rfl) (by kernel_rfl) (by kernel_rfl) (by kernel_rfl) (by kernel_rfl) h9 (by kernel_rfl)) ?_
        refine AtO.bool (b := a8) (by kernel_rfl) (val_load_ow (t := 4) (x := (.tmp 70)) (s := 3) (ps := []) (n := (a6.toNat)) (c := 0) (e := eB) (l := y3_L2) (a := a8) (d := .lit (.bool a8)) (by kernel_rfl) (by kernel_rfl) (by kernel_rfl) (by kernel_rfl) (lget_some h9).2 (by kernel_rfl)) (fun hc => ?_) (fun hc => ?_)
        · have h := ite_t h (id hc)
          refine AtO.seg 17 (by kernel_rfl) ?_
          refine AtO.done (p' := [1, 1, 1, 1, 0, 1, 0, 0, 1, 0, 0, 1, 1, 1, 1, 0, 0, 1, 0, 0, 0, 1]) (F' := [(0, .agg [.lit (.int .i64 x0.Rows), .sl (x0.Classes.map (eSl (eI .i64)))]), (1, .box [.lit (.int .i64 x0.Rows), .sl (x0.Classes.map (eSl (eI .i64)))]), (3, .own (y3_L2.map eB)), (4, .lit (.int .i64 a4)), (5, .lit (.int .i64 y5_L2)), (6, .sl (a2.map (eI .i64))), (7, .lit (.int .i64 y7_L2)), (88, .lit (.bool true))]) (by kernel_rfl) (by kernel_rfl) (by kernel_rfl) ?_
          refine Pt.cond_t (p' := [1, 1, 1, 1, 0, 1, 0, 0, 1, 0, 0, 1, 1, 1, 1, 0, 0, 1, 0, 0, 0, 1, 0, 0]) (F' := []) (y := (.tmp 88)) (by kernel_rfl) (by kernel_rfl) (by kernel_rfl) (by kernel_rfl) ?_
          refine Pt.reg (by kernel_rfl) ?_
          refine AtO.seg 1 (by kernel_rfl) ?_
          refine AtO.done (p' := [1, 1, 1, 1, 0, 1, 0, 0, 1, 0, 0, 1, 1, 1, 1, 0, 0, 1, 0, 0, 0, 1, 0, 1]) (F' := [(2, .lit (.bool false))]) (by kernel_rfl) (by kernel_rfl) (by kernel_rfl) ?_
          exact Pt.ret false (by kernel_rfl) (by kernel_rfl) h
        · have h := ite_f h (fls hc)
          refine AtO.seg 3 (by kernel_rfl) ?_
          refine AtO.bool (b := (decide (0 < y7_L2))) (by kernel_rfl) (by kernel_rfl) (fun hc => ?_) (fun hc => ?_)
          · have h := ite_t h (of_decide_eq_true hc)
            refine AtO.seg 3 (by kernel_rfl) ?_
            refine AtO.val (by kernel_rfl) (val_idx_sl (t := 38) (x := (.tmp 77)) (ix := (.tmp 78)) (et := 3) (k := 1) (e := (eI .i64)) (l := a2) (i := y7_L2) (q := .i64) (a := a6) (by kernel_rfl) (by kernel_rfl) (by kernel_rfl) (by kernel_rfl) (by kernel_rfl) h7 (by kernel_rfl)) ?_
            obtain ⟨a10, h11, h⟩ := h
            refine AtO.seg 4 (by kernel_rfl) ?_
            refine AtO.val (by kernel_rfl) (val_idx_sl (t := 38) (x := (.tmp 81)) (ix := (.tmp 83)) (et := 3) (k := 1) (e := (eI .i64)) (l := a2) (i := (IntKind.wrap .i64 (y7_L2 - 1))) (q := .i64) (a := a10) (by kernel_rfl) (by kernel_rfl) (by kernel_rfl) (by kernel_rfl) (by kernel_rfl) h11 (by kernel_rfl)) ?_
            refine AtO.seg 1 (by kernel_rfl) ?_
            refine AtO.bool (b := (decide (a6 ≤ a10))) (by kernel_rfl) (by kernel_rfl) (fun hc => ?_) (fun hc => ?_)
            · have h := ite_t h (of_decide_eq_true hc)
              refine AtO.seg 2 (by kernel_rfl) ?_
              refine AtO.done (p' := [1, 1, 1, 1, 0, 1, 0, 0, 1, 0, 0, 1, 1, 1, 1, 0, 0, 1, 0, 0, 0, 1]) (F' := [(0, .agg [.lit (.int .i64 x0.Rows), .sl (x0.Classes.map (eSl (eI .i64)))]), (1, .box [.lit (.int .i64 x0.Rows), .sl (x0.Classes.map (eSl (eI .i64)))]), (3, .own (y3_L2.map eB)), (4, .lit (.int .i64 a4)), (5, .lit (.int .i64 y5_L2)), (6, .sl (a2.map (eI .i64))), (7, .lit (.int .i64 y7_L2)), (88, .lit (.bool true))]) (by kernel_rfl) (by kernel_rfl) (by kernel_rfl) ?_
              refine Pt.cond_t (p' := [1, 1, 1, 1, 0, 1, 0, 0, 1, 0, 0, 1, 1, 1, 1, 0, 0, 1, 0, 0, 0, 1, 0, 0]) (F' := []) (y := (.tmp 88)) (by kernel_rfl) (by kernel_rfl) (by kernel_rfl) (by kernel_rfl) ?_
              refine Pt.reg (by kernel_rfl) ?_
              refine AtO.seg 1 (by kernel_rfl) ?_
              refine AtO.done (p' := [1, 1, 1, 1, 0, 1, 0, 0, 1, 0, 0, 1, 1, 1, 1, 0, 0, 1, 0, 0, 0, 1, 0, 1]) (F' := [(2, .lit (.bool false))]) (by kernel_rfl) (by kernel_rfl) (by kernel_rfl) ?_
              exact Pt.ret false (by kernel_rfl) (by kernel_rfl) h
            · have h := ite_f h (of_decide_eq_false hc)
              refine AtO.seg 2 (by kernel_rfl) ?_
              refine AtO.done (p' := [1, 1, 1, 1, 0, 1, 0, 0, 1, 0, 0, 1, 1, 1, 1, 0, 0, 1, 0, 0, 0, 1]) (F' := [(0, .agg [.lit (.int .i64 x0.Rows), .sl (x0.Classes.map (eSl (eI .i64)))]), (1, .box [.lit (.int .i64 x0.Rows), .sl (x0.Classes.map (eSl (eI .i64)))]), (3, .own (y3_L2.map eB)), (4, .lit (.int .i64 a4)), (5, .lit (.int .i64 y5_L2)), (6, .sl (a2.map (eI .i64))), (7, .lit (.int .i64 y7_L2)), (88, .lit (.bool false))]) (by kernel_rfl) (by kernel_rfl) (by kernel_rfl) ?_
              refine Pt.cond_f (p' := [1, 1, 1, 1, 0, 1, 0, 0, 1, 0, 0, 1, 1, 1, 1, 0, 0, 1, 0, 0, 0, 1, 1]) (F' := [(0, .agg [.lit (.int .i64 x0.Rows), .sl (x0.Classes.map (eSl (eI .i64)))]), (1, .box [.lit (.int .i64 x0.Rows), .sl (x0.Classes.map (eSl (eI .i64)))]), (3, .own (y3_L2.map eB)), (4, .lit (.int .i64 a4)), (5, .lit (.int .i64 y5_L2)), (6, .sl (a2.map (eI .i64))), (7, .lit (.int .i64 y7_L2))]) (y := (.tmp 88)) (by kernel_rfl) (by kernel_rfl) (by kernel_rfl) (by kernel_rfl) ?_
              refine Pt.skip (p' := [1, 1, 1, 1, 0, 1, 0, 0, 1, 0, 0, 1, 1, 1, 1, 0, 0, 1, 0, 0, 1]) (by kernel_rfl) (by kernel_rfl) ?_
              exact h
          · have h := ite_f h (of_decide_eq_false hc)
            refine AtO.seg 13 (by kernel_rfl) ?_
            refine AtO.done (p' := [1, 1, 1, 1, 0, 1, 0, 0, 1, 0, 0, 1, 1, 1, 1, 0, 0, 1, 0, 0, 0, 1]) (F' := [(0, .agg [.lit (.int .i64 x0.Rows), .sl (x0.Classes.map (eSl (eI .i64)))]), (1, .box [.lit (.int .i64 x0.Rows), .sl (x0.Classes.map (eSl (eI .i64)))]), (3, .own (y3_L2.map eB)), (4, .lit (.int .i64 a4)), (5, .lit (.int .i64 y5_L2)), (6, .sl (a2.map (eI .i64))), (7, .lit (.int .i64 y7_L2)), (88, .lit (.bool false))]) (by kernel_rfl) (by kernel_rfl) (by kernel_rfl) ?_
            refine Pt.cond_f (p' := [1, 1, 1, 1, 0, 1, 0, 0, 1, 0, 0, 1, 1, 1, 1, 0, 0, 1, 0, 0, 0, 1, 1]) (F' := [(0, .agg [.lit (.int .i64 x0.Rows), .sl (x0.Classes.map (eSl (eI .i64)))]), (1, .box [.lit (.int .i64 x0.Rows), .sl (x0.Classes.map (eSl (eI .i64)))]), (3, .own (y3_L2.map eB)), (4, .lit (.int .i64 a4)), (5, .lit (.int .i64 y5_L2)), (6, .sl (a2.map (eI .i64))), (7, .lit (.int .i64 y7_L2))]) (y := (.tmp 88)) (by kernel_rfl) (by kernel_rfl) (by kernel_rfl) (by kernel_rfl) ?_
            refine Pt.skip (p' := [1, 1, 1, 1, 0, 1, 0, 0, 1, 0, 0, 1, 1, 1, 1, 0, 0, 1, 0, 0, 1]) (by kernel_rfl) (by kernel_rfl) ?_
            exact h
  · have h := ite_f h (of_decide_eq_false hc)
    refine AtO.done (p' := [1, 1, 1, 1, 0, 1, 0, 0, 1, 0, 0, 1, 1, 1, 1, 0, 0, 0, 1]) (F' := [(0, .agg [.lit (.int .i64 x0.Rows), .sl (x0.Classes.map (eSl (eI .i64)))]), (1, .box [.lit (.int .i64 x0.Rows), .sl (x0.Classes.map (eSl (eI .i64)))]), (3, .own (y3_L2.map eB)), (4, .lit (.int .i64 a4)), (5, .lit (.int .i64 y5_L2)), (6, .sl (a2.map (eI .i64))), (7, .lit (.int .i64 y7_L2)), (47, .lit (.bool false))]) (by kernel_rfl) (by kernel_rfl) (by kernel_rfl) ?_
    refine Pt.cond_f (p' := [1, 1, 1, 1, 0, 1, 0, 0, 1, 0, 0, 1, 1, 1, 1, 0, 0, 0, 1, 1]) (F' := [(0, .agg [.lit (.int .i64 x0.Rows), .sl (x0.Classes.map (eSl (eI .i64)))]), (1, .box [.lit (.int .i64 x0.Rows), .sl (x0.Classes.map (eSl (eI .i64)))]), (3, .own (y3_L2.map eB)), (4, .lit (.int .i64 a4)), (5, .lit (.int .i64 y5_L2))]) (y := (.tmp 47)) (by kernel_rfl) (by kernel_rfl) (by kernel_rfl) (by kernel_rfl) ?_
    refine Pt.exit (p' := [1, 1, 1, 1, 0, 1, 0, 0, 1, 1]) (F' := [(0, .agg [.lit (.int .i64 x0.Rows), .sl (x0.Classes.map (eSl (eI .i64)))]), (1, .box [.lit (.int .i64 x0.Rows), .sl (x0.Classes.map (eSl (eI .i64)))]), (3, .own (y3_L2.map eB)), (4, .lit (.int .i64 a4)), (5, .lit (.int .i64 y5_L2))]) (by kernel_rfl) (by kernel_rfl) (by kernel_rfl) ?_
    refine Pt.reg (by kernel_rfl) ?_
    refine AtO.seg 3 (by kernel_rfl) ?_
    refine AtO.done (p' := [1, 1, 1, 1, 0, 1, 0]) (F' := [(0, .agg [.lit (.int .i64 x0.Rows), .sl (x0.Classes.map (eSl (eI .i64)))]), (1, .box [.lit (.int .i64 x0.Rows), .sl (x0.Classes.map (eSl (eI .i64)))]), (3, .own (y3_L2.map eB)), (4, .lit (.int .i64 a4)), (5, .lit (.int .i64 ((IntKind.wrap .i64 (y5_L2 + 1)))))]) (by kernel_rfl) (by kernel_rfl) (by kernel_rfl) ?_
    exact h
theorem L3_step (x0 : api_Partition) (y3_L2 : List Bool) (a4 : Int) (y5_L3 : Int) (a2 : List Int) (y7_L2 : Int) (φ : Bool → Prop) (h :
    ∃ a12, lget a2 y7_L2 = some a12 ∧
    ∃ a14, lget y3_L2 a12 = some a14 ∧
    drossref08_Valid.L2 x0 ((lset y3_L2 a12 true)) a4 y5_L3 a2 ((IntKind.wrap .i64 (y7_L2 + 1))) φ) : L3 x0 y3_L2 a4 y5_L3 a2 y7_L2 φ := by
  unfold L3
  refine Pt.reg (by kernel_rfl) ?_
  obtain ⟨a12, h13, h⟩ := h
  refine AtO.seg 3 (by kernel_rfl) ?_
  refine AtO.val (by kernel_rfl) (val_idx_sl (t := 38) (x := (.tmp 90)) (ix := (.tmp 91)) (et := 3) (k := 1) (e := (eI .i64)) (l := a2) (i := y7_L2) (q := .i64) (a := a12) (by kernel_rfl) (by kernel_rfl) (by kernel_rfl) (by kernel_rfl) (by kernel_rfl) h13 (by kernel_rfl)) ?_
  obtain ⟨a14, h15, h⟩ := h
  refine AtO.seg 1 (by kernel_rfl) ?_
  refine AtO.val (by kernel_rfl) (val_idx_ow (s := 3) (ps := []) (t := 70) (x := (.tmp 89)) (ix := (.tmp 93)) (et := 4) (k := 1) (e := eB) (l := y3_L2) (i := a12) (q := .i64) (a := a14) (by kernel_rfl) (by kernel_rfl) (by kernel_rfl) (by kernel_rfl) (by kernel_rfl) (by kernel_rfl) h15 (by kernel_rfl)) ?_
  refine AtO.op (by kernel_rfl) (store1 (t := 4) (x := (.tmp 94)) (y := (.const (.bool true))) (s := 3) (ps := []) (n := (a12.toNat)) (c := 0) (e := eB) (l := y3_L2) (a := a14) (b := true) (k := 1) (d := .lit (.bool true)) (by kernel_rfl) (by kernel_rfl) (by kernel_rfl) (by kernel_rfl) (lget_some h15).2 (by kernel_rfl) (by kernel_rfl) (by kernel_rfl) (by kernel_rfl) (by kernel_rfl) (setG_eq (by kernel_rfl))) ?_
  refine AtO.done (p' := [1, 1, 1, 1, 0, 1, 0, 0, 1, 0, 0, 1, 1, 1, 1, 0, 0, 1, 1]) (F' := [(0, .agg [.lit (.int .i64 x0.Rows), .sl (x0.Classes.map (eSl (eI .i64)))]), (1, .box [.lit (.int .i64 x0.Rows), .sl (x0.Classes.map (eSl (eI .i64)))]), (3, .own (((lset y3_L2 a12 true)).map eB)), (4, .lit (.int .i64 a4)), (5, .lit (.int .i64 y5_L3)), (6, .sl (a2.map (eI .i64))), (7, .lit (.int .i64 y7_L2))]) (by kernel_rfl) (by kernel_rfl) (by kernel_rfl) ?_
  refine Pt.reg (by kernel_rfl) ?_
  refine AtO.seg 3 (by kernel_rfl) ?_
  refine AtO.done (p' := [1, 1, 1, 1, 0, 1, 0, 0, 1, 0, 0, 1, 1, 1, 1, 0]) (F' := [(0, .agg [.lit (.int .i64 x0.Rows), .sl (x0.Classes.map (eSl (eI .i64)))]), (1, .box [.lit (.int .i64 x0.Rows), .sl (x0.Classes.map (eSl (eI .i64)))]), (3, .own (((lset y3_L2 a12 true)).map eB)), (4, .lit (.int .i64 a4)), (5, .lit (.int .i64 y5_L3)), (6, .sl (a2.map (eI .i64))), (7, .lit (.int .i64 ((IntKind.wrap .i64 (y7_L2 + 1)))))]) (by kernel_rfl) (by kernel_rfl) (by kernel_rfl) ?_
  exact h
theorem enter (x0 : api_Partition) (φ : Bool → Prop) (h :
    (if x0.Rows < 0 then
      φ false
    else
      (if 1000 < x0.Rows then
        φ false
      else
        (0 ≤ x0.Rows ∧ x0.Rows * 1 ≤ 281474976710656) ∧
        drossref08_Valid.L1 x0 ((List.replicate x0.Rows.toNat false)) ((-1)) 0 φ))) : ∃ r, φ r ∧ C x0 r := by
  refine Ret.of_at (E := env) (f := 16) (fd := Tryd.f16) (body := B) (p := [0]) (V := W) (F := [(0, .agg [.lit (.int .i64 x0.Rows), .sl (x0.Classes.map (eSl (eI .i64)))]), (1, .undef), (2, .undef), (3, .undef), (4, .undef), (5, .undef), (6, .undef), (7, .undef), (15, .undef), (23, .undef), (40, .undef), (47, .undef), (88, .undef)]) (res := res) (φ := φ) (ds := [.agg [.lit (.int .i64 x0.Rows), .sl (x0.Classes.map (eSl (eI .i64)))]]) (by kernel_rfl) (by kernel_rfl) (by kernel_rfl) ⟨Nat.le_of_ble_eq_true (by kernel_rfl), Nat.le_of_ble_eq_true (by kernel_rfl)⟩ (by kernel_rfl) (by kernel_rfl) (by kernel_rfl) ?_
  refine Pt.reg (by kernel_rfl) ?_
  refine AtO.seg 2 (by kernel_rfl) ?_
  refine AtO.done (p' := [1, 0, 0]) (F' := [(0, .agg [.lit (.int .i64 x0.Rows), .sl (x0.Classes.map (eSl (eI .i64)))]), (1, .box [.lit (.int .i64 x0.Rows), .sl (x0.Classes.map (eSl (eI .i64)))])]) (by kernel_rfl) (by kernel_rfl) (by kernel_rfl) ?_
  refine Pt.reg (by kernel_rfl) ?_
  refine AtO.seg 2 (by kernel_rfl) ?_
  refine AtO.bool (b := (decide (x0.Rows < 0))) (by kernel_rfl) (by kernel_rfl) (fun hc => ?_) (fun hc => ?_)
  · have h := ite_t h (of_decide_eq_true hc)
    refine AtO.seg 5 (by kernel_rfl) ?_
    refine AtO.done (p' := [1, 0, 1]) (F' := [(0, .agg [.lit (.int .i64 x0.Rows), .sl (x0.Classes.map (eSl (eI .i64)))]), (1, .box [.lit (.int .i64 x0.Rows), .sl (x0.Classes.map (eSl (eI .i64)))]), (15, .lit (.bool true))]) (by kernel_rfl) (by kernel_rfl) (by kernel_rfl) ?_
    refine Pt.cond_t (p' := [1, 0, 1, 0, 0]) (F' := []) (y := (.tmp 15)) (by kernel_rfl) (by kernel_rfl) (by kernel_rfl) (by kernel_rfl) ?_
    refine Pt.reg (by kernel_rfl) ?_
    refine AtO.seg 1 (by kernel_rfl) ?_
    refine AtO.done (p' := [1, 0, 1, 0, 1]) (F' := [(2, .lit (.bool false))]) (by kernel_rfl) (by kernel_rfl) (by kernel_rfl) ?_
    exact Pt.ret false (by kernel_rfl) (by kernel_rfl) h
  · have h := ite_f h (of_decide_eq_false hc)
    refine AtO.seg 3 (by kernel_rfl) ?_
    refine AtO.bool (b := (decide (1000 < x0.Rows))) (by kernel_rfl) (by kernel_rfl) (fun hc => ?_) (fun hc => ?_)
    · have h := ite_t h (of_decide_eq_true hc)
      refine AtO.seg 1 (by kernel_rfl) ?_
      refine AtO.done (p' := [1, 0, 1]) (F' := [(0, .agg [.lit (.int .i64 x0.Rows), .sl (x0.Classes.map (eSl (eI .i64)))]), (1, .box [.lit (.int .i64 x0.Rows), .sl (x0.Classes.map (eSl (eI .i64)))]), (15, .lit (.bool true))]) (by kernel_rfl) (by kernel_rfl) (by kernel_rfl) ?_
      refine Pt.cond_t (p' := [1, 0, 1, 0, 0]) (F' := []) (y := (.tmp 15)) (by kernel_rfl) (by kernel_rfl) (by kernel_rfl) (by kernel_rfl) ?_
      refine Pt.reg (by kernel_rfl) ?_
      refine AtO.seg 1 (by kernel_rfl) ?_
      refine AtO.done (p' := [1, 0, 1, 0, 1]) (F' := [(2, .lit (.bool false))]) (by kernel_rfl) (by kernel_rfl) (by kernel_rfl) ?_
      exact Pt.ret false (by kernel_rfl) (by kernel_rfl) h
    · have h := ite_f h (of_decide_eq_false hc)
      refine AtO.seg 1 (by kernel_rfl) ?_
      refine AtO.done (p' := [1, 0, 1]) (F' := [(0, .agg [.lit (.int .i64 x0.Rows), .sl (x0.Classes.map (eSl (eI .i64)))]), (1, .box [.lit (.int .i64 x0.Rows), .sl (x0.Classes.map (eSl (eI .i64)))]), (15, .lit (.bool false))]) (by kernel_rfl) (by kernel_rfl) (by kernel_rfl) ?_
      refine Pt.cond_f (p' := [1, 0, 1, 1]) (F' := [(0, .agg [.lit (.int .i64 x0.Rows), .sl (x0.Classes.map (eSl (eI .i64)))]), (1, .box [.lit (.int .i64 x0.Rows), .sl (x0.Classes.map (eSl (eI .i64)))])]) (y := (.tmp 15)) (by kernel_rfl) (by kernel_rfl) (by kernel_rfl) (by kernel_rfl) ?_
      refine Pt.skip (p' := [1, 1, 0]) (by kernel_rfl) (by kernel_rfl) ?_
      refine Pt.reg (by kernel_rfl) ?_
      obtain ⟨h1, h⟩ := h
      refine AtO.seg 2 (by kernel_rfl) ?_
      refine AtO.val (by kernel_rfl) (val_make (t := 70) (x := (.tmp 17)) (y := (.tmp 17)) (q := .i64) (i := x0.Rows) (et := 4) (z := .lit (.bool false)) (e := eB) (a := false) (k := 1) (by kernel_rfl) (by kernel_rfl) (by kernel_rfl) (by kernel_rfl) (by kernel_rfl) (by kernel_rfl) (by kernel_rfl) (by kernel_rfl) (by kernel_rfl) (by kernel_rfl) h1.1 h1.2) ?_
      refine AtO.seg 1 (by kernel_rfl) ?_
      refine AtO.done (p' := [1, 1, 1, 0]) (F' := [(0, .agg [.lit (.int .i64 x0.Rows), .sl (x0.Classes.map (eSl (eI .i64)))]), (1, .box [.lit (.int .i64 x0.Rows), .sl (x0.Classes.map (eSl (eI .i64)))]), (3, .own (((List.replicate x0.Rows.toNat false)).map eB))]) (by kernel_rfl) (by kernel_rfl) (by kernel_rfl) ?_
      refine Pt.reg (by kernel_rfl) ?_
      refine AtO.seg 1 (by kernel_rfl) ?_
      refine AtO.done (p' := [1, 1, 1, 1, 0, 0]) (F' := [(0, .agg [.lit (.int .i64 x0.Rows), .sl (x0.Classes.map (eSl (eI .i64)))]), (1, .box [.lit (.int .i64 x0.Rows), .sl (x0.Classes.map (eSl (eI .i64)))]), (3, .own (((List.replicate x0.Rows.toNat false)).map eB)), (4, .lit (.int .i64 ((-1))))]) (by kernel_rfl) (by kernel_rfl) (by kernel_rfl) ?_
      refine Pt.reg (by kernel_rfl) ?_
      refine AtO.seg 1 (by kernel_rfl) ?_
      refine AtO.done (p' := [1, 1, 1, 1, 0, 1, 0]) (F' := [(0, .agg [.lit (.int .i64 x0.Rows), .sl (x0.Classes.map (eSl (eI .i64)))]), (1, .box [.lit (.int .i64 x0.Rows), .sl (x0.Classes.map (eSl (eI .i64)))]), (3, .own (((List.replicate x0.Rows.toNat false)).map eB)), (4, .lit (.int .i64 ((-1)))), (5, .lit (.int .i64 0))]) (by kernel_rfl) (by kernel_rfl) (by kernel_rfl) ?_
      exact h
end drossref08_Valid
end Go.Own

namespace Go.Own
def okClass (rows : Int) : Int → List Bool → List Int → Option (List Bool)
  | _, seen, [] => some seen
  | before, seen, i :: r => if i ≤ before ∨ rows ≤ i ∨ lget seen i = some true then none else okClass rows i (lset seen i true) r
def okClasses (rows : Int) : Int → List Bool → List (List Int) → Bool
  | _, _, [] => true
  | first, seen, c :: cs => match c with
    | [] => false
    | [_] => false
    | a :: b :: r => if a ≤ first then false else match okClass rows (-1) seen (a :: b :: r) with
      | none => false
      | some seen' => okClasses rows a seen' cs
def validF (p : api_Partition) : Bool := if p.Rows < 0 then false else if 1000 < p.Rows then false else okClasses p.Rows (-1) (List.replicate p.Rows.toNat false) p.Classes
def Small (p : api_Partition) : Prop := p.Classes.length < Big ∧ ∀ c ∈ p.Classes, c.length < Big
theorem okClass_len {rows : Int} : ∀ {r : List Int} {b : Int} {s s' : List Bool}, okClass rows b s r = some s' → s'.length = s.length
  | [], _, _, _, h => by simp [okClass] at h; rw [h]
  | i :: r, b, s, s', h => by
    simp only [okClass] at h
    split at h
    · cases h
    · have := okClass_len h
      rw [this, lset_length]
namespace partition_Valid
theorem inner {x0 : api_Partition} {a4 y24 : Int} {a2 : List Int} {φ : Bool → Prop} (hb : a2.length < Big) : ∀ (r : List Int) (k : Nat) (seen : List Bool) (before : Int), a2.drop k = r → (seen.length : Int) = x0.Rows → -1 ≤ before →
    (match okClass x0.Rows before seen r with
      | none => φ false
      | some s => L1 x0 s a4 (IntKind.wrap .i64 (y24 + 1)) φ) → L2 x0 seen a4 a2 before y24 k φ
  | [], k, seen, before, hd, hs, hbf, h => by
    apply L2_step
    have := drop_ge hd
    rw [if_neg (by omega)]
    exact h
  | i :: r, k, seen, before, hd, hs, hbf, h => by
    apply L2_step
    have hk := drop_lt hd
    rw [if_pos (by omega)]
    refine ⟨i, lget_drop hd, ?_⟩
    simp only [okClass] at h
    split
    · rename_i h1
      rw [if_pos (.inl h1)] at h; exact h
    · rename_i h1
      split
      · rename_i h2
        rw [if_pos (.inr (.inl h2))] at h; exact h
      · rename_i h2
        obtain ⟨b, hg⟩ := lget_lt (l := seen) (i := i) (by omega) (by omega)
        refine ⟨b, hg, ?_⟩
        split
        · rename_i h3
          subst h3
          rw [if_pos (.inr (.inr hg))] at h; exact h
        · rename_i h3
          have : ¬ (i ≤ before ∨ x0.Rows ≤ i ∨ lget seen i = some true) := by
            rintro (h | h | h)
            · exact h1 h
            · exact h2 h
            · rw [hg] at h; exact h3 (Option.some.inj h)
          rw [if_neg this] at h
          rw [wrap_succ (by unfold Big at hb; omega)]
          exact inner hb r (k + 1) _ i (drop_next hd) (by rw [lset_length]; exact hs) (by omega) h
theorem outer {x0 : api_Partition} {φ : Bool → Prop} (hb : Small x0) : ∀ (cs : List (List Int)) (k : Nat) (seen : List Bool) (first : Int), x0.Classes.drop k = cs → (seen.length : Int) = x0.Rows →
    φ (okClasses x0.Rows first seen cs) → L1 x0 seen first k φ
  | [], k, seen, first, hd, hs, h => by
    apply L1_step
    have := drop_ge hd
    rw [if_neg (by omega)]
    exact h
  | c :: cs, k, seen, first, hd, hs, h => by
    apply L1_step
    have hk := drop_lt hd
    have hc : c ∈ x0.Classes := List.mem_of_getElem? (drop_get hd)
    rw [if_pos (by omega)]
    refine ⟨c, lget_drop hd, ?_⟩
    match c, hc, h, hd with
    | [], _, h, hd => simp only [List.length_nil]; exact h
    | [_], _, h, hd => simp only [List.length_singleton]; exact h
    | a :: b :: r, hc, h, hd =>
      rw [if_neg (by simp; omega)]
      refine ⟨a, by simp [lget], ?_⟩
      simp only [okClasses] at h
      split
      · rename_i h1; rw [if_pos h1] at h; exact h
      · rename_i h1
        rw [if_neg h1] at h
        refine inner (hb.2 _ hc) (a :: b :: r) 0 seen (-1) rfl hs (by omega) ?_
        cases ho : okClass x0.Rows (-1) seen (a :: b :: r) with
        | none => rw [ho] at h; exact h
        | some s =>
          rw [ho] at h
          simp only at h ⊢
          rw [wrap_succ (by have := hb.1; unfold Big at this; omega)]
          exact outer hb cs (k + 1) s a (drop_next hd) (by rw [okClass_len ho]; exact hs) h
theorem spec {x0 : api_Partition} (hb : Small x0) : C x0 (validF x0) := by
  obtain ⟨r, h1, h2⟩ := enter x0 (fun r => r = validF x0) (by
    unfold validF
    split
    · rfl
    · split
      · rfl
      · refine ⟨by omega, ?_⟩
        exact outer hb x0.Classes 0 _ (-1) rfl (by simp; omega) rfl)
  rw [← h1]; exact h2
end partition_Valid
namespace drossref08_Valid
theorem inner {x0 : api_Partition} {a4 y24 : Int} {a2 : List Int} {φ : Bool → Prop} (hb : a2.length < Big) : ∀ (r : List Int) (k : Nat) (seen : List Bool) (before : Int), a2.drop k = r → (seen.length : Int) = x0.Rows → (k = 0 → before = -1) → (0 < k → lget a2 ((k : Int) - 1) = some before ∧ 0 ≤ before) →
    (match okClass x0.Rows before seen r with
      | none => φ false
      | some s => L1 x0 s a4 (IntKind.wrap .i64 (y24 + 1)) φ) → L2 x0 seen a4 y24 a2 k φ
  | [], k, seen, before, hd, hs, hb0, hb1, h => by
    apply L2_step
    have := drop_ge hd
    rw [if_neg (by omega)]
    exact h
  | i :: r, k, seen, before, hd, hs, hb0, hb1, h => by
    apply L2_step
    have hk := drop_lt hd
    rw [if_pos (by omega)]
    refine ⟨i, lget_drop hd, ?_⟩
    simp only [okClass] at h
    have hbe : -1 ≤ before := by
      rcases Nat.eq_zero_or_pos k with h0 | h0
      · rw [hb0 h0]; omega
      · have := (hb1 h0).2; omega
    split
    · rename_i h1
      rw [if_pos (.inl (by omega))] at h; exact h
    · rename_i h1
      split
      · rename_i h2
        rw [if_pos (.inr (.inl h2))] at h; exact h
      · rename_i h2
        obtain ⟨b, hg⟩ := lget_lt (l := seen) (i := i) (by omega) (by omega)
        refine ⟨b, hg, ?_⟩
        split
        · rename_i h3
          subst h3
          rw [if_pos (.inr (.inr hg))] at h; exact h
        · rename_i h3
          have go : i > before → L3 x0 seen a4 y24 a2 k φ := fun hib => by
            have : ¬ (i ≤ before ∨ x0.Rows ≤ i ∨ lget seen i = some true) := by
              rintro (h | h | h)
              · omega
              · exact h2 h
              · rw [hg] at h; exact h3 (Option.some.inj h)
            rw [if_neg this] at h
            apply L3_step
            refine ⟨i, lget_drop hd, b, hg, ?_⟩
            rw [wrap_succ (by unfold Big at hb; omega)]
            refine inner hb r (k + 1) _ i (drop_next hd) (by rw [lset_length]; exact hs) (by omega) (fun _ => ⟨?_, by omega⟩) h
            have : ((k + 1 : Nat) : Int) - 1 = (k : Int) := by omega
            rw [this]; exact lget_drop hd
          split
          · rename_i h4
            have h5 := hb1 (by omega)
            refine ⟨before, ?_, ?_⟩
            · rw [wrap_id (by omega) (by unfold Big at hb; omega)]; exact h5.1
            · split
              · rename_i h6
                rw [if_pos (.inl h6)] at h; exact h
              · exact go (by omega)
          · rename_i h4
            have := hb0 (by omega)
            exact go (by omega)
theorem outer {x0 : api_Partition} {φ : Bool → Prop} (hb : Small x0) : ∀ (cs : List (List Int)) (k : Nat) (seen : List Bool) (first : Int), x0.Classes.drop k = cs → (seen.length : Int) = x0.Rows →
    φ (okClasses x0.Rows first seen cs) → L1 x0 seen first k φ
  | [], k, seen, first, hd, hs, h => by
    apply L1_step
    have := drop_ge hd
    rw [if_neg (by omega)]
    exact h
  | c :: cs, k, seen, first, hd, hs, h => by
    apply L1_step
    have hk := drop_lt hd
    have hc : c ∈ x0.Classes := List.mem_of_getElem? (drop_get hd)
    rw [if_pos (by omega)]
    refine ⟨c, lget_drop hd, ?_⟩
    match c, hc, h, hd with
    | [], _, h, hd => simp only [List.length_nil]; exact h
    | [_], _, h, hd => simp only [List.length_singleton]; exact h
    | a :: b :: r, hc, h, hd =>
      rw [if_neg (by simp; omega)]
      refine ⟨a, by simp [lget], ?_⟩
      simp only [okClasses] at h
      split
      · rename_i h1; rw [if_pos h1] at h; exact h
      · rename_i h1
        rw [if_neg h1] at h
        refine inner (hb.2 _ hc) (a :: b :: r) 0 seen (-1) rfl hs (fun _ => rfl) (fun h => by omega) ?_
        cases ho : okClass x0.Rows (-1) seen (a :: b :: r) with
        | none => rw [ho] at h; exact h
        | some s =>
          rw [ho] at h
          simp only at h ⊢
          rw [wrap_succ (by have := hb.1; unfold Big at this; omega)]
          exact outer hb cs (k + 1) s a (drop_next hd) (by rw [okClass_len ho]; exact hs) h
theorem spec {x0 : api_Partition} (hb : Small x0) : C x0 (validF x0) := by
  obtain ⟨r, h1, h2⟩ := enter x0 (fun r => r = validF x0) (by
    unfold validF
    split
    · rfl
    · split
      · rfl
      · refine ⟨by omega, ?_⟩
        exact outer hb x0.Classes 0 _ (-1) rfl (by simp; omega) rfl)
  rw [← h1]; exact h2
end drossref08_Valid
end Go.Own

namespace Go.Own
open Go.Proofs D
set_option maxRecDepth 100000
set_option maxHeartbeats 4000000
namespace partition_Rank
noncomputable def B : Code := (Tryd.f17.body).getD .skip
def W : List Nat := [0, 1, 2, 3, 5, 8, 12, 13, 14, 15]
def res (r : Int) : D × List D := (.lit (.int .i64 r), [])
def C (x0 : api_Partition) (r : Int) : Prop := Ret env 17 [.agg [.lit (.int .i64 x0.Rows), .sl (x0.Classes.map (eSl (eI .i64)))]] (res r).1 (res r).2
def L1 (x0 : api_Partition) (y3_L1 : Int) (y14_L1 : Int) (φ : Int → Prop) : Prop := Pt env 17 W B [1, 1, 1, 0, 1, 0] [(0, .agg [.lit (.int .i64 x0.Rows), .sl (x0.Classes.map (eSl (eI .i64)))]), (1, .box [.lit (.int .i64 x0.Rows), .sl (x0.Classes.map (eSl (eI .i64)))]), (3, .lit (.int .i64 y3_L1)), (12, .sl (x0.Classes.map (eSl (eI .i64)))), (13, .lit (.int .i64 ((x0.Classes.length : Int)))), (14, .lit (.int .i64 y14_L1))] (Lv env 17 Tryd.f17 1 res φ)
theorem L1_step (x0 : api_Partition) (y3_L1 : Int) (y14_L1 : Int) (φ : Int → Prop) (h :
    (if y14_L1 < (x0.Classes.length : Int) then
      ∃ a3, lget x0.Classes y14_L1 = some a3 ∧
      partition_Rank.L1 x0 ((IntKind.wrap .i64 (y3_L1 - (IntKind.wrap .i64 ((a3.length : Int) - 1))))) ((IntKind.wrap .i64 (y14_L1 + 1))) φ
    else
      φ y3_L1)) : L1 x0 y3_L1 y14_L1 φ := by
  unfold L1
  refine Pt.loop (p' := [1, 1, 1, 0, 1, 0, 0, 0]) (by kernel_rfl) (by kernel_rfl) ?_
  refine Pt.reg (by kernel_rfl) ?_
  refine AtO.bool (b := (decide (y14_L1 < (x0.Classes.length : Int)))) (by kernel_rfl) (by kernel_rfl) (fun hc => ?_) (fun hc => ?_)
  · have h := ite_t h (of_decide_eq_true hc)
    refine AtO.done (p' := [1, 1, 1, 0, 1, 0, 0, 1, 0]) (F' := [(0, .agg [.lit (.int .i64 x0.Rows), .sl (x0.Classes.map (eSl (eI .i64)))]), (1, .box [.lit (.int .i64 x0.Rows), .sl (x0.Classes.map (eSl (eI .i64)))]), (3, .lit (.int .i64 y3_L1)), (12, .sl (x0.Classes.map (eSl (eI .i64)))), (13, .lit (.int .i64 ((x0.Classes.length : Int)))), (14, .lit (.int .i64 y14_L1)), (15, .lit (.bool true))]) (by kernel_rfl) (by kernel_rfl) (by kernel_rfl) ?_
    refine Pt.cond_t (p' := [1, 1, 1, 0, 1, 0, 0, 1, 0, 0]) (F' := [(0, .agg [.lit (.int .i64 x0.Rows), .sl (x0.Classes.map (eSl (eI .i64)))]), (1, .box [.lit (.int .i64 x0.Rows), .sl (x0.Classes.map (eSl (eI .i64)))]), (3, .lit (.int .i64 y3_L1)), (12, .sl (x0.Classes.map (eSl (eI .i64)))), (13, .lit (.int .i64 ((x0.Classes.length : Int)))), (14, .lit (.int .i64 y14_L1))]) (y := (.tmp 15)) (by kernel_rfl) (by kernel_rfl) (by kernel_rfl) (by kernel_rfl) ?_
    refine Pt.skip (p' := [1, 1, 1, 0, 1, 0, 0, 1, 1, 0, 0, 0]) (by kernel_rfl) (by kernel_rfl) ?_
    refine Pt.reg (by kernel_rfl) ?_
    obtain ⟨a3, h4, h⟩ := h
    refine AtO.val (by kernel_rfl) (val_idx_sl (t := 29) (x := (.tmp 12)) (ix := (.tmp 14)) (et := 38) (k := 1) (e := (eSl (eI .i64))) (l := x0.Classes) (i := y14_L1) (q := .i64) (a := a3) (by kernel_rfl) (by kernel_rfl) (by kernel_rfl) (by kernel_rfl) (by kernel_rfl) h4 (by kernel_rfl)) ?_
    refine AtO.seg 2 (by kernel_rfl) ?_
    refine AtO.done (p' := [1, 1, 1, 0, 1, 0, 0, 1, 1, 0, 0, 1]) (F' := [(0, .agg [.lit (.int .i64 x0.Rows), .sl (x0.Classes.map (eSl (eI .i64)))]), (1, .box [.lit (.int .i64 x0.Rows), .sl (x0.Classes.map (eSl (eI .i64)))]), (3, .lit (.int .i64 y3_L1)), (5, .sl (a3.map (eI .i64))), (12, .sl (x0.Classes.map (eSl (eI .i64)))), (13, .lit (.int .i64 ((x0.Classes.length : Int)))), (14, .lit (.int .i64 y14_L1))]) (by kernel_rfl) (by kernel_rfl) (by kernel_rfl) ?_
    refine Pt.reg (by kernel_rfl) ?_
    refine AtO.seg 2 (by kernel_rfl) ?_
    refine AtO.val (by kernel_rfl) (val_len (x := (.tmp 19)) (t := 38) (et := 3) (d := .sl (a3.map (eI .i64))) (e := (eI .i64)) (l := a3) (by kernel_rfl) (by kernel_rfl) elemsOf_sl (by kernel_rfl)) ?_
    refine AtO.seg 3 (by kernel_rfl) ?_
    refine AtO.done (p' := [1, 1, 1, 0, 1, 0, 0, 1, 1, 1]) (F' := [(0, .agg [.lit (.int .i64 x0.Rows), .sl (x0.Classes.map (eSl (eI .i64)))]), (1, .box [.lit (.int .i64 x0.Rows), .sl (x0.Classes.map (eSl (eI .i64)))]), (3, .lit (.int .i64 ((IntKind.wrap .i64 (y3_L1 - (IntKind.wrap .i64 ((a3.length : Int) - 1))))))), (12, .sl (x0.Classes.map (eSl (eI .i64)))), (13, .lit (.int .i64 ((x0.Classes.length : Int)))), (14, .lit (.int .i64 y14_L1))]) (by kernel_rfl) (by kernel_rfl) (by kernel_rfl) ?_
    refine Pt.reg (by kernel_rfl) ?_
    refine AtO.seg 2 (by kernel_rfl) ?_
    refine AtO.done (p' := [1, 1, 1, 0, 1, 0]) (F' := [(0, .agg [.lit (.int .i64 x0.Rows), .sl (x0.Classes.map (eSl (eI .i64)))]), (1, .box [.lit (.int .i64 x0.Rows), .sl (x0.Classes.map (eSl (eI .i64)))]), (3, .lit (.int .i64 ((IntKind.wrap .i64 (y3_L1 - (IntKind.wrap .i64 ((a3.length : Int) - 1))))))), (12, .sl (x0.Classes.map (eSl (eI .i64)))), (13, .lit (.int .i64 ((x0.Classes.length : Int)))), (14, .lit (.int .i64 ((IntKind.wrap .i64 (y14_L1 + 1)))))]) (by kernel_rfl) (by kernel_rfl) (by kernel_rfl) ?_
    exact h
  · have h := ite_f h (of_decide_eq_false hc)
    refine AtO.done (p' := [1, 1, 1, 0, 1, 0, 0, 1, 0]) (F' := [(0, .agg [.lit (.int .i64 x0.Rows), .sl (x0.Classes.map (eSl (eI .i64)))]), (1, .box [.lit (.int .i64 x0.Rows), .sl (x0.Classes.map (eSl (eI .i64)))]), (3, .lit (.int .i64 y3_L1)), (12, .sl (x0.Classes.map (eSl (eI .i64)))), (13, .lit (.int .i64 ((x0.Classes.length : Int)))), (14, .lit (.int .i64 y14_L1)), (15, .lit (.bool false))]) (by kernel_rfl) (by kernel_rfl) (by kernel_rfl) ?_
    refine Pt.cond_f (p' := [1, 1, 1, 0, 1, 0, 0, 1, 0, 1]) (F' := [(3, .lit (.int .i64 y3_L1))]) (y := (.tmp 15)) (by kernel_rfl) (by kernel_rfl) (by kernel_rfl) (by kernel_rfl) ?_
    refine Pt.exit (p' := [1, 1, 1, 1, 0]) (F' := [(3, .lit (.int .i64 y3_L1))]) (by kernel_rfl) (by kernel_rfl) (by kernel_rfl) ?_
    refine Pt.reg (by kernel_rfl) ?_
    refine AtO.seg 2 (by kernel_rfl) ?_
    refine AtO.done (p' := [1, 1, 1, 1, 1]) (F' := [(2, .lit (.int .i64 y3_L1))]) (by kernel_rfl) (by kernel_rfl) (by kernel_rfl) ?_
    exact Pt.ret y3_L1 (by kernel_rfl) (by kernel_rfl) h
theorem enter (x0 : api_Partition) (φ : Int → Prop) (h :
    ∃ r1 : Bool, partition_Valid.C x0 r1 ∧
    (if r1 = true then
      partition_Rank.L1 x0 x0.Rows 0 φ
    else
      φ 0)) : ∃ r, φ r ∧ C x0 r := by
  refine Ret.of_at (E := env) (f := 17) (fd := Tryd.f17) (body := B) (p := [0]) (V := W) (F := [(0, .agg [.lit (.int .i64 x0.Rows), .sl (x0.Classes.map (eSl (eI .i64)))]), (1, .undef), (2, .undef), (3, .undef), (5, .undef), (8, .undef), (12, .undef), (13, .undef), (14, .undef), (15, .undef)]) (res := res) (φ := φ) (ds := [.agg [.lit (.int .i64 x0.Rows), .sl (x0.Classes.map (eSl (eI .i64)))]]) (by kernel_rfl) (by kernel_rfl) (by kernel_rfl) ⟨Nat.le_of_ble_eq_true (by kernel_rfl), Nat.le_of_ble_eq_true (by kernel_rfl)⟩ (by kernel_rfl) (by kernel_rfl) (by kernel_rfl) ?_
  refine Pt.reg (by kernel_rfl) ?_
  refine AtO.seg 2 (by kernel_rfl) ?_
  refine AtO.done (p' := [1, 0, 0]) (F' := [(0, .agg [.lit (.int .i64 x0.Rows), .sl (x0.Classes.map (eSl (eI .i64)))]), (1, .box [.lit (.int .i64 x0.Rows), .sl (x0.Classes.map (eSl (eI .i64)))])]) (by kernel_rfl) (by kernel_rfl) (by kernel_rfl) ?_
  refine Pt.reg (by kernel_rfl) ?_
  obtain ⟨r1, h2, h⟩ := h
  refine AtO.seg 1 (by kernel_rfl) ?_
  refine AtO.call0 (x := (.func 15)) (g := 15) (caps := []) (agl := [.opn (.tmp 6)]) (ds := [.agg [.lit (.int .i64 x0.Rows), .sl (x0.Classes.map (eSl (eI .i64)))]]) (r := .lit (.bool r1)) (r' := .lit (.bool r1)) (ms := [none]) (by kernel_rfl) (by kernel_rfl) (by kernel_rfl) (by kernel_rfl) (by kernel_rfl) (by kernel_rfl) (pass_snap (a := .opn (.tmp 6)) (d0 := .agg [.lit (.int .i64 x0.Rows), .sl (x0.Classes.map (eSl (eI .i64)))]) (d := .agg [.lit (.int .i64 x0.Rows), .sl (x0.Classes.map (eSl (eI .i64)))]) (by kernel_rfl) (by kernel_rfl) (by kernel_rfl) pass_nil) h2 rfl (by kernel_rfl) ?_
  refine AtO.putb (fun hc => ?_) (fun hc => ?_)
  · have h := ite_t h (id hc)
    refine AtO.seg 1 (by kernel_rfl) ?_
    refine AtO.done (p' := [1, 0, 1]) (F' := [(0, .agg [.lit (.int .i64 x0.Rows), .sl (x0.Classes.map (eSl (eI .i64)))]), (1, .box [.lit (.int .i64 x0.Rows), .sl (x0.Classes.map (eSl (eI .i64)))]), (8, .lit (.bool false))]) (by kernel_rfl) (by kernel_rfl) (by kernel_rfl) ?_
    refine Pt.cond_f (p' := [1, 0, 1, 1]) (F' := [(0, .agg [.lit (.int .i64 x0.Rows), .sl (x0.Classes.map (eSl (eI .i64)))]), (1, .box [.lit (.int .i64 x0.Rows), .sl (x0.Classes.map (eSl (eI .i64)))])]) (y := (.tmp 8)) (by kernel_rfl) (by kernel_rfl) (by kernel_rfl) (by kernel_rfl) ?_
    refine Pt.skip (p' := [1, 1, 0]) (by kernel_rfl) (by kernel_rfl) ?_
    refine Pt.reg (by kernel_rfl) ?_
    refine AtO.seg 3 (by kernel_rfl) ?_
    refine AtO.done (p' := [1, 1, 1, 0, 0]) (F' := [(0, .agg [.lit (.int .i64 x0.Rows), .sl (x0.Classes.map (eSl (eI .i64)))]), (1, .box [.lit (.int .i64 x0.Rows), .sl (x0.Classes.map (eSl (eI .i64)))]), (3, .lit (.int .i64 x0.Rows))]) (by kernel_rfl) (by kernel_rfl) (by kernel_rfl) ?_
    refine Pt.reg (by kernel_rfl) ?_
    refine AtO.seg 2 (by kernel_rfl) ?_
    refine AtO.val (by kernel_rfl) (val_len (x := (.tmp 12)) (t := 29) (et := 38) (d := .sl (x0.Classes.map (eSl (eI .i64)))) (e := (eSl (eI .i64))) (l := x0.Classes) (by kernel_rfl) (by kernel_rfl) elemsOf_sl (by kernel_rfl)) ?_
    refine AtO.seg 1 (by kernel_rfl) ?_
    refine AtO.done (p' := [1, 1, 1, 0, 1, 0]) (F' := [(0, .agg [.lit (.int .i64 x0.Rows), .sl (x0.Classes.map (eSl (eI .i64)))]), (1, .box [.lit (.int .i64 x0.Rows), .sl (x0.Classes.map (eSl (eI .i64)))]), (3, .lit (.int .i64 x0.Rows)), (12, .sl (x0.Classes.map (eSl (eI .i64)))), (13, .lit (.int .i64 ((x0.Classes.length : Int)))), (14, .lit (.int .i64 0))]) (by kernel_rfl) (by kernel_rfl) (by kernel_rfl) ?_
    exact h
  · have h := ite_f h (fls hc)
    refine AtO.seg 1 (by kernel_rfl) ?_
    refine AtO.done (p' := [1, 0, 1]) (F' := [(0, .agg [.lit (.int .i64 x0.Rows), .sl (x0.Classes.map (eSl (eI .i64)))]), (1, .box [.lit (.int .i64 x0.Rows), .sl (x0.Classes.map (eSl (eI .i64)))]), (8, .lit (.bool true))]) (by kernel_rfl) (by kernel_rfl) (by kernel_rfl) ?_
    refine Pt.cond_t (p' := [1, 0, 1, 0, 0]) (F' := []) (y := (.tmp 8)) (by kernel_rfl) (by kernel_rfl) (by kernel_rfl) (by kernel_rfl) ?_
    refine Pt.reg (by kernel_rfl) ?_
    refine AtO.seg 1 (by kernel_rfl) ?_
    refine AtO.done (p' := [1, 0, 1, 0, 1]) (F' := [(2, .lit (.int .i64 0))]) (by kernel_rfl) (by kernel_rfl) (by kernel_rfl) ?_
    exact Pt.ret 0 (by kernel_rfl) (by kernel_rfl) h
end partition_Rank
end Go.Own

namespace Go.Own
open Go.Proofs D
set_option maxRecDepth 100000
set_option maxHeartbeats 4000000
namespace drossref08_Labels
noncomputable def B : Code := (Tryd.f39.body).getD .skip
def W : List Nat := [0, 1, 2, 3, 4, 5, 6, 13, 24, 34]
def res (r : List Int) : D × List D := (.own (r.map (eI .i64)), [])
def C (x0 : api_Partition) (r : List Int) : Prop := Ret env 39 [.agg [.lit (.int .i64 x0.Rows), .sl (x0.Classes.map (eSl (eI .i64)))]] (res r).1 (res r).2
def L1 (x0 : api_Partition) (y3_L1 : List Int) (y4_L1 : Int) (φ : List Int → Prop) : Prop := Pt env 39 W B [1, 1, 0, 1, 0] [(0, .agg [.lit (.int .i64 x0.Rows), .sl (x0.Classes.map (eSl (eI .i64)))]), (1, .box [.lit (.int .i64 x0.Rows), .sl (x0.Classes.map (eSl (eI .i64)))]), (3, .own (y3_L1.map (eI .i64))), (4, .lit (.int .i64 y4_L1))] (Lv env 39 Tryd.f39 1 res φ)
def L2 (x0 : api_Partition) (y3_L1 : List Int) (y5_L2 : Int) (φ : List Int → Prop) : Prop := Pt env 39 W B [1, 1, 1, 0, 1, 0] [(0, .agg [.lit (.int .i64 x0.Rows), .sl (x0.Classes.map (eSl (eI .i64)))]), (1, .box [.lit (.int .i64 x0.Rows), .sl (x0.Classes.map (eSl (eI .i64)))]), (3, .own (y3_L1.map (eI .i64))), (5, .lit (.int .i64 y5_L2))] (Lv env 39 Tryd.f39 1 res φ)
def L3 (x0 : api_Partition) (y3_L1 : List Int) (y5_L3 : Int) (y6_L3 : Int) (φ : List Int → Prop) : Prop := Pt env 39 W B [1, 1, 1, 0, 1, 0, 0, 1, 0, 0, 1, 0] [(0, .agg [.lit (.int .i64 x0.Rows), .sl (x0.Classes.map (eSl (eI .i64)))]), (1, .box [.lit (.int .i64 x0.Rows), .sl (x0.Classes.map (eSl (eI .i64)))]), (3, .own (y3_L1.map (eI .i64))), (5, .lit (.int .i64 y5_L3)), (6, .lit (.int .i64 y6_L3))] (Lv env 39 Tryd.f39 1 res φ)
theorem L1_step (x0 : api_Partition) (y3_L1 : List Int) (y4_L1 : Int) (φ : List Int → Prop) (h :
    (if y4_L1 < x0.Rows then
      ∃ a2, lget y3_L1 y4_L1 = some a2 ∧
      drossref08_Labels.L1 x0 ((lset y3_L1 y4_L1 y4_L1)) ((IntKind.wrap .i64 (y4_L1 + 1))) φ
    else
      drossref08_Labels.L2 x0 y3_L1 0 φ)) : L1 x0 y3_L1 y4_L1 φ := by
  unfold L1
  refine Pt.loop (p' := [1, 1, 0, 1, 0, 0, 0, 0]) (by kernel_rfl) (by kernel_rfl) ?_
  refine Pt.reg (by kernel_rfl) ?_
  refine AtO.seg 3 (by kernel_rfl) ?_
  refine AtO.bool (b := (decide (y4_L1 < x0.Rows))) (by kernel_rfl) (by kernel_rfl) (fun hc => ?_) (fun hc => ?_)
  · have h := ite_t h (of_decide_eq_true hc)
    refine AtO.done (p' := [1, 1, 0, 1, 0, 0, 0, 1]) (F' := [(0, .agg [.lit (.int .i64 x0.Rows), .sl (x0.Classes.map (eSl (eI .i64)))]), (1, .box [.lit (.int .i64 x0.Rows), .sl (x0.Classes.map (eSl (eI .i64)))]), (3, .own (y3_L1.map (eI .i64))), (4, .lit (.int .i64 y4_L1)), (13, .lit (.bool true))]) (by kernel_rfl) (by kernel_rfl) (by kernel_rfl) ?_
    refine Pt.cond_t (p' := [1, 1, 0, 1, 0, 0, 0, 1, 0]) (F' := [(0, .agg [.lit (.int .i64 x0.Rows), .sl (x0.Classes.map (eSl (eI .i64)))]), (1, .box [.lit (.int .i64 x0.Rows), .sl (x0.Classes.map (eSl (eI .i64)))]), (3, .own (y3_L1.map (eI .i64))), (4, .lit (.int .i64 y4_L1))]) (y := (.tmp 13)) (by kernel_rfl) (by kernel_rfl) (by kernel_rfl) (by kernel_rfl) ?_
    refine Pt.skip (p' := [1, 1, 0, 1, 0, 0, 1, 0, 0]) (by kernel_rfl) (by kernel_rfl) ?_
    refine Pt.reg (by kernel_rfl) ?_
    obtain ⟨a2, h3, h⟩ := h
    refine AtO.seg 3 (by kernel_rfl) ?_
    refine AtO.val (by kernel_rfl) (val_idx_ow (s := 3) (ps := []) (t := 38) (x := (.tmp 16)) (ix := (.tmp 17)) (et := 3) (k := 1) (e := (eI .i64)) (l := y3_L1) (i := y4_L1) (q := .i64) (a := a2) (by kernel_rfl) (by kernel_rfl) (by kernel_rfl) (by kernel_rfl) (by kernel_rfl) (by kernel_rfl) h3 (by kernel_rfl)) ?_
    refine AtO.op (by kernel_rfl) (store1 (t := 3) (x := (.tmp 19)) (y := (.tmp 18)) (s := 3) (ps := []) (n := (y4_L1.toNat)) (c := 0) (e := (eI .i64)) (l := y3_L1) (a := a2) (b := y4_L1) (k := 1) (d := .lit (.int .i64 y4_L1)) (by kernel_rfl) (by kernel_rfl) (by kernel_rfl) (by kernel_rfl) (lget_some h3).2 (by kernel_rfl) (by kernel_rfl) (by kernel_rfl) (by kernel_rfl) (by kernel_rfl) (setG_eq (by kernel_rfl))) ?_
    refine AtO.done (p' := [1, 1, 0, 1, 0, 0, 1, 1]) (F' := [(0, .agg [.lit (.int .i64 x0.Rows), .sl (x0.Classes.map (eSl (eI .i64)))]), (1, .box [.lit (.int .i64 x0.Rows), .sl (x0.Classes.map (eSl (eI .i64)))]), (3, .own (((lset y3_L1 y4_L1 y4_L1)).map (eI .i64))), (4, .lit (.int .i64 y4_L1))]) (by kernel_rfl) (by kernel_rfl) (by kernel_rfl) ?_
    refine Pt.reg (by kernel_rfl) ?_
    refine AtO.seg 3 (by kernel_rfl) ?_
    refine AtO.done (p' := [1, 1, 0, 1, 0]) (F' := [(0, .agg [.lit (.int .i64 x0.Rows), .sl (x0.Classes.map (eSl (eI .i64)))]), (1, .box [.lit (.int .i64 x0.Rows), .sl (x0.Classes.map (eSl (eI .i64)))]), (3, .own (((lset y3_L1 y4_L1 y4_L1)).map (eI .i64))), (4, .lit (.int .i64 ((IntKind.wrap .i64 (y4_L1 + 1)))))]) (by kernel_rfl) (by kernel_rfl) (by kernel_rfl) ?_
    exact h
  · have h := ite_f h (of_decide_eq_false hc)
    refine AtO.done (p' := [1, 1, 0, 1, 0, 0, 0, 1]) (F' := [(0, .agg [.lit (.int .i64 x0.Rows), .sl (x0.Classes.map (eSl (eI .i64)))]), (1, .box [.lit (.int .i64 x0.Rows), .sl (x0.Classes.map (eSl (eI .i64)))]), (3, .own (y3_L1.map (eI .i64))), (4, .lit (.int .i64 y4_L1)), (13, .lit (.bool false))]) (by kernel_rfl) (by kernel_rfl) (by kernel_rfl) ?_
    refine Pt.cond_f (p' := [1, 1, 0, 1, 0, 0, 0, 1, 1]) (F' := [(0, .agg [.lit (.int .i64 x0.Rows), .sl (x0.Classes.map (eSl (eI .i64)))]), (1, .box [.lit (.int .i64 x0.Rows), .sl (x0.Classes.map (eSl (eI .i64)))]), (3, .own (y3_L1.map (eI .i64)))]) (y := (.tmp 13)) (by kernel_rfl) (by kernel_rfl) (by kernel_rfl) (by kernel_rfl) ?_
    refine Pt.exit (p' := [1, 1, 1, 0, 0]) (F' := [(0, .agg [.lit (.int .i64 x0.Rows), .sl (x0.Classes.map (eSl (eI .i64)))]), (1, .box [.lit (.int .i64 x0.Rows), .sl (x0.Classes.map (eSl (eI .i64)))]), (3, .own (y3_L1.map (eI .i64)))]) (by kernel_rfl) (by kernel_rfl) (by kernel_rfl) ?_
    refine Pt.reg (by kernel_rfl) ?_
    refine AtO.seg 1 (by kernel_rfl) ?_
    refine AtO.done (p' := [1, 1, 1, 0, 1, 0]) (F' := [(0, .agg [.lit (.int .i64 x0.Rows), .sl (x0.Classes.map (eSl (eI .i64)))]), (1, .box [.lit (.int .i64 x0.Rows), .sl (x0.Classes.map (eSl (eI .i64)))]), (3, .own (y3_L1.map (eI .i64))), (5, .lit (.int .i64 0))]) (by kernel_rfl) (by kernel_rfl) (by kernel_rfl) ?_
    exact h
theorem L2_step (x0 : api_Partition) (y3_L1 : List Int) (y5_L2 : Int) (φ : List Int → Prop) (h :
    (if y5_L2 < (x0.Classes.length : Int) then
      drossref08_Labels.L3 x0 y3_L1 y5_L2 0 φ
    else
      φ y3_L1)) : L2 x0 y3_L1 y5_L2 φ := by
  unfold L2
  refine Pt.loop (p' := [1, 1, 1, 0, 1, 0, 0, 0, 0]) (by kernel_rfl) (by kernel_rfl) ?_
  refine Pt.reg (by kernel_rfl) ?_
  refine AtO.seg 3 (by kernel_rfl) ?_
  refine AtO.val (by kernel_rfl) (val_len (x := (.tmp 22)) (t := 29) (et := 38) (d := .sl (x0.Classes.map (eSl (eI .i64)))) (e := (eSl (eI .i64))) (l := x0.Classes) (by kernel_rfl) (by kernel_rfl) elemsOf_sl (by kernel_rfl)) ?_
  refine AtO.bool (b := (decide (y5_L2 < (x0.Classes.length : Int)))) (by kernel_rfl) (by kernel_rfl) (fun hc => ?_) (fun hc => ?_)
  · have h := ite_t h (of_decide_eq_true hc)
    refine AtO.done (p' := [1, 1, 1, 0, 1, 0, 0, 0, 1]) (F' := [(0, .agg [.lit (.int .i64 x0.Rows), .sl (x0.Classes.map (eSl (eI .i64)))]), (1, .box [.lit (.int .i64 x0.Rows), .sl (x0.Classes.map (eSl (eI .i64)))]), (3, .own (y3_L1.map (eI .i64))), (5, .lit (.int .i64 y5_L2)), (24, .lit (.bool true))]) (by kernel_rfl) (by kernel_rfl) (by kernel_rfl) ?_
    refine Pt.cond_t (p' := [1, 1, 1, 0, 1, 0, 0, 0, 1, 0]) (F' := [(0, .agg [.lit (.int .i64 x0.Rows), .sl (x0.Classes.map (eSl (eI .i64)))]), (1, .box [.lit (.int .i64 x0.Rows), .sl (x0.Classes.map (eSl (eI .i64)))]), (3, .own (y3_L1.map (eI .i64))), (5, .lit (.int .i64 y5_L2))]) (y := (.tmp 24)) (by kernel_rfl) (by kernel_rfl) (by kernel_rfl) (by kernel_rfl) ?_
    refine Pt.skip (p' := [1, 1, 1, 0, 1, 0, 0, 1, 0, 0, 0]) (by kernel_rfl) (by kernel_rfl) ?_
    refine Pt.reg (by kernel_rfl) ?_
    refine AtO.seg 1 (by kernel_rfl) ?_
    refine AtO.done (p' := [1, 1, 1, 0, 1, 0, 0, 1, 0, 0, 1, 0]) (F' := [(0, .agg [.lit (.int .i64 x0.Rows), .sl (x0.Classes.map (eSl (eI .i64)))]), (1, .box [.lit (.int .i64 x0.Rows), .sl (x0.Classes.map (eSl (eI .i64)))]), (3, .own (y3_L1.map (eI .i64))), (5, .lit (.int .i64 y5_L2)), (6, .lit (.int .i64 0))]) (by kernel_rfl) (by kernel_rfl) (by kernel_rfl) ?_
    exact h
  · have h := ite_f h (of_decide_eq_false hc)
    refine AtO.done (p' := [1, 1, 1, 0, 1, 0, 0, 0, 1]) (F' := [(0, .agg [.lit (.int .i64 x0.Rows), .sl (x0.Classes.map (eSl (eI .i64)))]), (1, .box [.lit (.int .i64 x0.Rows), .sl (x0.Classes.map (eSl (eI .i64)))]), (3, .own (y3_L1.map (eI .i64))), (5, .lit (.int .i64 y5_L2)), (24, .lit (.bool false))]) (by kernel_rfl) (by kernel_rfl) (by kernel_rfl) ?_
    refine Pt.cond_f (p' := [1, 1, 1, 0, 1, 0, 0, 0, 1, 1]) (F' := [(3, .own (y3_L1.map (eI .i64)))]) (y := (.tmp 24)) (by kernel_rfl) (by kernel_rfl) (by kernel_rfl) (by kernel_rfl) ?_
    refine Pt.exit (p' := [1, 1, 1, 1, 0]) (F' := [(3, .own (y3_L1.map (eI .i64)))]) (by kernel_rfl) (by kernel_rfl) (by kernel_rfl) ?_
    refine Pt.reg (by kernel_rfl) ?_
    refine AtO.seg 2 (by kernel_rfl) ?_
    refine AtO.done (p' := [1, 1, 1, 1, 1]) (F' := [(2, .alias 3 []), (3, .own (y3_L1.map (eI .i64)))]) (by kernel_rfl) (by kernel_rfl) (by kernel_rfl) ?_
    exact Pt.ret y3_L1 (by kernel_rfl) (by kernel_rfl) h
theorem L3_step (x0 : api_Partition) (y3_L1 : List Int) (y5_L3 : Int) (y6_L3 : Int) (φ : List Int → Prop) (h :
    ∃ a4, lget x0.Classes y5_L3 = some a4 ∧
    (if y6_L3 < (a4.length : Int) then
      ∃ a6, lget a4 y6_L3 = some a6 ∧
      ∃ a8, lget a4 0 = some a8 ∧
      ∃ a10, lget y3_L1 a6 = some a10 ∧
      drossref08_Labels.L3 x0 ((lset y3_L1 a6 a8)) y5_L3 ((IntKind.wrap .i64 (y6_L3 + 1))) φ
    else
      drossref08_Labels.L2 x0 y3_L1 ((IntKind.wrap .i64 (y5_L3 + 1))) φ)) : L3 x0 y3_L1 y5_L3 y6_L3 φ := by
  unfold L3
  refine Pt.loop (p' := [1, 1, 1, 0, 1, 0, 0, 1, 0, 0, 1, 0, 0, 0, 0]) (by kernel_rfl) (by kernel_rfl) ?_
  refine Pt.reg (by kernel_rfl) ?_
  obtain ⟨a4, h5, h⟩ := h
  refine AtO.seg 4 (by kernel_rfl) ?_
  refine AtO.val (by kernel_rfl) (val_idx_sl (t := 29) (x := (.tmp 29)) (ix := (.tmp 30)) (et := 38) (k := 1) (e := (eSl (eI .i64))) (l := x0.Classes) (i := y5_L3) (q := .i64) (a := a4) (by kernel_rfl) (by kernel_rfl) (by kernel_rfl) (by kernel_rfl) (by kernel_rfl) h5 (by kernel_rfl)) ?_
  refine AtO.seg 1 (by kernel_rfl) ?_
  refine AtO.val (by kernel_rfl) (val_len (x := (.tmp 32)) (t := 38) (et := 3) (d := .sl (a4.map (eI .i64))) (e := (eI .i64)) (l := a4) (by kernel_rfl) (by kernel_rfl) elemsOf_sl (by kernel_rfl)) ?_
  refine AtO.bool (b := (decide (y6_L3 < (a4.length : Int)))) (by kernel_rfl) (by kernel_rfl) (fun hc => ?_) (fun hc => ?_)
  · have h := ite_t h (of_decide_eq_true hc)
    refine AtO.done (p' := [1, 1, 1, 0, 1, 0, 0, 1, 0, 0, 1, 0, 0, 0, 1]) (F' := [(0, .agg [.lit (.int .i64 x0.Rows), .sl (x0.Classes.map (eSl (eI .i64)))]), (1, .box [.lit (.int .i64 x0.Rows), .sl (x0.Classes.map (eSl (eI .i64)))]), (3, .own (y3_L1.map (eI .i64))), (5, .lit (.int .i64 y5_L3)), (6, .lit (.int .i64 y6_L3)), (34, .lit (.bool true))]) (by kernel_rfl) (by kernel_rfl) (by kernel_rfl) ?_
    refine Pt.cond_t (p' := [1, 1, 1, 0, 1, 0, 0, 1, 0, 0, 1, 0, 0, 0, 1, 0]) (F' := [(0, .agg [.lit (.int .i64 x0.Rows), .sl (x0.Classes.map (eSl (eI .i64)))]), (1, .box [.lit (.int .i64 x0.Rows), .sl (x0.Classes.map (eSl (eI .i64)))]), (3, .own (y3_L1.map (eI .i64))), (5, .lit (.int .i64 y5_L3)), (6, .lit (.int .i64 y6_L3))]) (y := (.tmp 34)) (by kernel_rfl) (by kernel_rfl) (by kernel_rfl) (by kernel_rfl) ?_
    refine Pt.skip (p' := [1, 1, 1, 0, 1, 0, 0, 1, 0, 0, 1, 0, 0, 1, 0, 0]) (by kernel_rfl) (by kernel_rfl) ?_
    refine Pt.reg (by kernel_rfl) ?_
    refine AtO.seg 4 (by kernel_rfl) ?_
    refine AtO.val (by kernel_rfl) (val_idx_sl (t := 29) (x := (.tmp 39)) (ix := (.tmp 40)) (et := 38) (k := 1) (e := (eSl (eI .i64))) (l := x0.Classes) (i := y5_L3) (q := .i64) (a := a4) (by kernel_rfl) (by kernel_rfl) (by kernel_rfl) (by kernel_rfl) (by kernel_rfl) h5 (by kernel_rfl)) ?_
    obtain ⟨a6, h7, h⟩ := h
    refine AtO.seg 2 (by kernel_rfl) ?_
    refine AtO.val (by kernel_rfl) (val_idx_sl (t := 38) (x := (.tmp 42)) (ix := (.tmp 43)) (et := 3) (k := 1) (e := (eI .i64)) (l := a4) (i := y6_L3) (q := .i64) (a := a6) (by kernel_rfl) (by kernel_rfl) (by kernel_rfl) (by kernel_rfl) (by kernel_rfl) h7 (by kernel_rfl)) ?_
    refine AtO.seg 4 (by kernel_rfl) ?_
    refine AtO.val (by kernel_rfl) (val_idx_sl (t := 29) (x := (.tmp 47)) (ix := (.tmp 48)) (et := 38) (k := 1) (e := (eSl (eI .i64))) (l := x0.Classes) (i := y5_L3) (q := .i64) (a := a4) (by kernel_rfl) (by kernel_rfl) (by kernel_rfl) (by kernel_rfl) (by kernel_rfl) h5 (by kernel_rfl)) ?_
    obtain ⟨a8, h9, h⟩ := h
    refine AtO.seg 1 (by kernel_rfl) ?_
    refine AtO.val (by kernel_rfl) (val_idx_sl (t := 38) (x := (.tmp 50)) (ix := (.const (.int .i64 0))) (et := 3) (k := 1) (e := (eI .i64)) (l := a4) (i := 0) (q := .i64) (a := a8) (by kernel_rfl) (by kernel_rfl) (by kernel_rfl) (by kernel_rfl) (by kernel_rfl) h9 (by kernel_rfl)) ?_
    obtain ⟨a10, h11, h⟩ := h
    refine AtO.seg 1 (by kernel_rfl) ?_
    refine AtO.val (by kernel_rfl) (val_idx_ow (s := 3) (ps := []) (t := 38) (x := (.tmp 37)) (ix := (.tmp 45)) (et := 3) (k := 1) (e := (eI .i64)) (l := y3_L1) (i := a6) (q := .i64) (a := a10) (by kernel_rfl) (by kernel_rfl) (by kernel_rfl) (by kernel_rfl) (by kernel_rfl) (by kernel_rfl) h11 (by kernel_rfl)) ?_
    refine AtO.op (by kernel_rfl) (store1 (t := 3) (x := (.tmp 53)) (y := (.tmp 52)) (s := 3) (ps := []) (n := (a6.toNat)) (c := 0) (e := (eI .i64)) (l := y3_L1) (a := a10) (b := a8) (k := 1) (d := .lit (.int .i64 a8)) (by kernel_rfl) (by kernel_rfl) (by kernel_rfl) (by kernel_rfl) (lget_some h11).2 (by kernel_rfl) (by kernel_rfl) (by kernel_rfl) (by kernel_rfl) (by kernel_rfl) (setG_eq (by kernel_rfl))) ?_
    refine AtO.done (p' := [1, 1, 1, 0, 1, 0, 0, 1, 0, 0, 1, 0, 0, 1, 1]) (F' := [(0, .agg [.lit (.int .i64 x0.Rows), .sl (x0.Classes.map (eSl (eI .i64)))]), (1, .box [.lit (.int .i64 x0.Rows), .sl (x0.Classes.map (eSl (eI .i64)))]), (3, .own (((lset y3_L1 a6 a8)).map (eI .i64))), (5, .lit (.int .i64 y5_L3)), (6, .lit (.int .i64 y6_L3))]) (by kernel_rfl) (by kernel_rfl) (by kernel_rfl) ?_
    refine Pt.reg (by kernel_rfl) ?_
    refine AtO.seg 3 (by kernel_rfl) ?_
    refine AtO.done (p' := [1, 1, 1, 0, 1, 0, 0, 1, 0, 0, 1, 0]) (F' := [(0, .agg [.lit (.int .i64 x0.Rows), .sl (x0.Classes.map (eSl (eI .i64)))]), (1, .box [.lit (.int .i64 x0.Rows), .sl (x0.Classes.map (eSl (eI .i64)))]), (3, .own (((lset y3_L1 a6 a8)).map (eI .i64))), (5, .lit (.int .i64 y5_L3)), (6, .lit (.int .i64 ((IntKind.wrap .i64 (y6_L3 + 1)))))]) (by kernel_rfl) (by kernel_rfl) (by kernel_rfl) ?_
    exact h
  · have h := ite_f h (of_decide_eq_false hc)
    refine AtO.done (p' := [1, 1, 1, 0, 1, 0, 0, 1, 0, 0, 1, 0, 0, 0, 1]) (F' := [(0, .agg [.lit (.int .i64 x0.Rows), .sl (x0.Classes.map (eSl (eI .i64)))]), (1, .box [.lit (.int .i64 x0.Rows), .sl (x0.Classes.map (eSl (eI .i64)))]), (3, .own (y3_L1.map (eI .i64))), (5, .lit (.int .i64 y5_L3)), (6, .lit (.int .i64 y6_L3)), (34, .lit (.bool false))]) (by kernel_rfl) (by kernel_rfl) (by kernel_rfl) ?_
    refine Pt.cond_f (p' := [1, 1, 1, 0, 1, 0, 0, 1, 0, 0, 1, 0, 0, 0, 1, 1]) (F' := [(0, .agg [.lit (.int .i64 x0.Rows), .sl (x0.Classes.map (eSl (eI .i64)))]), (1, .box [.lit (.int .i64 x0.Rows), .sl (x0.Classes.map (eSl (eI .i64)))]), (3, .own (y3_L1.map (eI .i64))), (5, .lit (.int .i64 y5_L3))]) (y := (.tmp 34)) (by kernel_rfl) (by kernel_rfl) (by kernel_rfl) (by kernel_rfl) ?_
    refine Pt.exit (p' := [1, 1, 1, 0, 1, 0, 0, 1, 1]) (F' := [(0, .agg [.lit (.int .i64 x0.Rows), .sl (x0.Classes.map (eSl (eI .i64)))]), (1, .box [.lit (.int .i64 x0.Rows), .sl (x0.Classes.map (eSl (eI .i64)))]), (3, .own (y3_L1.map (eI .i64))), (5, .lit (.int .i64 y5_L3))]) (by kernel_rfl) (by kernel_rfl) (by kernel_rfl) ?_
    refine Pt.reg (by kernel_rfl) ?_
    refine AtO.seg 3 (by kernel_rfl) ?_
    refine AtO.done (p' := [1, 1, 1, 0, 1, 0]) (F' := [(0, .agg [.lit (.int .i64 x0.Rows), .sl (x0.Classes.map (eSl (eI .i64)))]), (1, .box [.lit (.int .i64 x0.Rows), .sl (x0.Classes.map (eSl (eI .i64)))]), (3, .own (y3_L1.map (eI .i64))), (5, .lit (.int .i64 ((IntKind.wrap .i64 (y5_L3 + 1)))))]) (by kernel_rfl) (by kernel_rfl) (by kernel_rfl) ?_
    exact h
theorem enter (x0 : api_Partition) (φ : List Int → Prop) (h :
    (0 ≤ x0.Rows ∧ x0.Rows * 8 ≤ 281474976710656) ∧
    drossref08_Labels.L1 x0 ((List.replicate x0.Rows.toNat (0 : Int))) 0 φ) : ∃ r, φ r ∧ C x0 r := by
  refine Ret.of_at (E := env) (f := 39) (fd := Tryd.f39) (body := B) (p := [0]) (V := W) (F := [(0, .agg [.lit (.int .i64 x0.Rows), .sl (x0.Classes.map (eSl (eI .i64)))]), (1, .undef), (2, .undef), (3, .undef), (4, .undef), (5, .undef), (6, .undef), (13, .undef), (24, .undef), (34, .undef)]) (res := res) (φ := φ) (ds := [.agg [.lit (.int .i64 x0.Rows), .sl (x0.Classes.map (eSl (eI .i64)))]]) (by kernel_rfl) (by kernel_rfl) (by kernel_rfl) ⟨Nat.le_of_ble_eq_true (by kernel_rfl), Nat.le_of_ble_eq_true (by kernel_rfl)⟩ (by kernel_rfl) (by kernel_rfl) (by kernel_rfl) ?_
  refine Pt.reg (by kernel_rfl) ?_
  refine AtO.seg 2 (by kernel_rfl) ?_
  refine AtO.done (p' := [1, 0]) (F' := [(0, .agg [.lit (.int .i64 x0.Rows), .sl (x0.Classes.map (eSl (eI .i64)))]), (1, .box [.lit (.int .i64 x0.Rows), .sl (x0.Classes.map (eSl (eI .i64)))])]) (by kernel_rfl) (by kernel_rfl) (by kernel_rfl) ?_
  refine Pt.reg (by kernel_rfl) ?_
  obtain ⟨h1, h⟩ := h
  refine AtO.seg 2 (by kernel_rfl) ?_
  refine AtO.val (by kernel_rfl) (val_make (t := 38) (x := (.tmp 8)) (y := (.tmp 8)) (q := .i64) (i := x0.Rows) (et := 3) (z := .lit (.int .i64 0)) (e := (eI .i64)) (a := (0 : Int)) (k := 8) (by kernel_rfl) (by kernel_rfl) (by kernel_rfl) (by kernel_rfl) (by kernel_rfl) (by kernel_rfl) (by kernel_rfl) (by kernel_rfl) (by kernel_rfl) (by kernel_rfl) h1.1 h1.2) ?_
  refine AtO.seg 1 (by kernel_rfl) ?_
  refine AtO.done (p' := [1, 1, 0, 0]) (F' := [(0, .agg [.lit (.int .i64 x0.Rows), .sl (x0.Classes.map (eSl (eI .i64)))]), (1, .box [.lit (.int .i64 x0.Rows), .sl (x0.Classes.map (eSl (eI .i64)))]), (3, .own (((List.replicate x0.Rows.toNat (0 : Int))).map (eI .i64)))]) (by kernel_rfl) (by kernel_rfl) (by kernel_rfl) ?_
  refine Pt.reg (by kernel_rfl) ?_
  refine AtO.seg 1 (by kernel_rfl) ?_
  refine AtO.done (p' := [1, 1, 0, 1, 0]) (F' := [(0, .agg [.lit (.int .i64 x0.Rows), .sl (x0.Classes.map (eSl (eI .i64)))]), (1, .box [.lit (.int .i64 x0.Rows), .sl (x0.Classes.map (eSl (eI .i64)))]), (3, .own (((List.replicate x0.Rows.toNat (0 : Int))).map (eI .i64))), (4, .lit (.int .i64 0))]) (by kernel_rfl) (by kernel_rfl) (by kernel_rfl) ?_
  exact h
end drossref08_Labels
end Go.Own

namespace Go.Own
open Go.Proofs D
set_option maxRecDepth 100000
set_option maxHeartbeats 4000000
namespace drossref08_Rank
noncomputable def B : Code := (Tryd.f18.body).getD .skip
def W : List Nat := [0, 1, 2, 3, 4, 5, 8, 14, 22]
def res (r : Int) : D × List D := (.lit (.int .i64 r), [])
def C (x0 : api_Partition) (r : Int) : Prop := Ret env 18 [.agg [.lit (.int .i64 x0.Rows), .sl (x0.Classes.map (eSl (eI .i64)))]] (res r).1 (res r).2
def L1 (x0 : api_Partition) (r3 : List Int) (y4_L1 : Int) (y5_L1 : Int) (φ : Int → Prop) : Prop := Pt env 18 W B [1, 1, 1, 1, 0, 1, 0] [(0, .agg [.lit (.int .i64 x0.Rows), .sl (x0.Classes.map (eSl (eI .i64)))]), (1, .box [.lit (.int .i64 x0.Rows), .sl (x0.Classes.map (eSl (eI .i64)))]), (3, .own (r3.map (eI .i64))), (4, .lit (.int .i64 y4_L1)), (5, .lit (.int .i64 y5_L1))] (Lv env 18 Tryd.f18 1 res φ)
def L2 (x0 : api_Partition) (r3 : List Int) (y4_L2 : Int) (y5_L1 : Int) (φ : Int → Prop) : Prop := Pt env 18 W B [1, 1, 1, 1, 0, 1, 0, 0, 1, 1] [(0, .agg [.lit (.int .i64 x0.Rows), .sl (x0.Classes.map (eSl (eI .i64)))]), (1, .box [.lit (.int .i64 x0.Rows), .sl (x0.Classes.map (eSl (eI .i64)))]), (3, .own (r3.map (eI .i64))), (4, .lit (.int .i64 y4_L2)), (5, .lit (.int .i64 y5_L1))] (Lv env 18 Tryd.f18 1 res φ)
theorem L1_step (x0 : api_Partition) (r3 : List Int) (y4_L1 : Int) (y5_L1 : Int) (φ : Int → Prop) (h :
    (if y5_L1 < x0.Rows then
      ∃ a5, lget r3 y5_L1 = some a5 ∧
      (if a5 = y5_L1 then
        drossref08_Rank.L2 x0 r3 ((IntKind.wrap .i64 (y4_L1 + 1))) y5_L1 φ
      else
        drossref08_Rank.L2 x0 r3 y4_L1 y5_L1 φ)
    else
      φ y4_L1)) : L1 x0 r3 y4_L1 y5_L1 φ := by
  unfold L1
  refine Pt.loop (p' := [1, 1, 1, 1, 0, 1, 0, 0, 0, 0]) (by kernel_rfl) (by kernel_rfl) ?_
  refine Pt.reg (by kernel_rfl) ?_
  refine AtO.seg 3 (by kernel_rfl) ?_
  refine AtO.bool (b := (decide (y5_L1 < x0.Rows))) (by kernel_rfl) (by kernel_rfl) (fun hc => ?_) (fun hc => ?_)
  · have h := ite_t h (of_decide_eq_true hc)
    refine AtO.done (p' := [1, 1, 1, 1, 0, 1, 0, 0, 0, 1]) (F' := [(0, .agg [.lit (.int .i64 x0.Rows), .sl (x0.Classes.map (eSl (eI .i64)))]), (1, .box [.lit (.int .i64 x0.Rows), .sl (x0.Classes.map (eSl (eI .i64)))]), (3, .own (r3.map (eI .i64))), (4, .lit (.int .i64 y4_L1)), (5, .lit (.int .i64 y5_L1)), (14, .lit (.bool true))]) (by kernel_rfl) (by kernel_rfl) (by kernel_rfl) ?_
    refine Pt.cond_t (p' := [1, 1, 1, 1, 0, 1, 0, 0, 0, 1, 0]) (F' := [(0, .agg [.lit (.int .i64 x0.Rows), .sl (x0.Classes.map (eSl (eI .i64)))]), (1, .box [.lit (.int .i64 x0.Rows), .sl (x0.Classes.map (eSl (eI .i64)))]), (3, .own (r3.map (eI .i64))), (4, .lit (.int .i64 y4_L1)), (5, .lit (.int .i64 y5_L1))]) (y := (.tmp 14)) (by kernel_rfl) (by kernel_rfl) (by kernel_rfl) (by kernel_rfl) ?_
    refine Pt.skip (p' := [1, 1, 1, 1, 0, 1, 0, 0, 1, 0, 0, 0]) (by kernel_rfl) (by kernel_rfl) ?_
    refine Pt.reg (by kernel_rfl) ?_
    obtain ⟨a5, h6, h⟩ := h
    refine AtO.seg 2 (by kernel_rfl) ?_
    refine AtO.val (by kernel_rfl) (val_idx_ow (s := 3) (ps := []) (t := 38) (x := (.tmp 17)) (ix := (.tmp 18)) (et := 3) (k := 1) (e := (eI .i64)) (l := r3) (i := y5_L1) (q := .i64) (a := a5) (by kernel_rfl) (by kernel_rfl) (by kernel_rfl) (by kernel_rfl) (by kernel_rfl) (by kernel_rfl) h6 (by kernel_rfl)) ?_
    refine AtO.val (by kernel_rfl) (val_load_ow (t := 3) (x := (.tmp 19)) (s := 3) (ps := []) (n := (y5_L1.toNat)) (c := 0) (e := (eI .i64)) (l := r3) (a := a5) (d := .lit (.int .i64 a5)) (by kernel_rfl) (by kernel_rfl) (by kernel_rfl) (by kernel_rfl) (lget_some h6).2 (by kernel_rfl)) ?_
    refine AtO.seg 1 (by kernel_rfl) ?_
    refine AtO.bool (b := (a5 == y5_L1)) (by kernel_rfl) (by kernel_rfl) (fun hc => ?_) (fun hc => ?_)
    · have h := ite_t h (beq_t hc)
      refine AtO.done (p' := [1, 1, 1, 1, 0, 1, 0, 0, 1, 0, 0, 1]) (F' := [(0, .agg [.lit (.int .i64 x0.Rows), .sl (x0.Classes.map (eSl (eI .i64)))]), (1, .box [.lit (.int .i64 x0.Rows), .sl (x0.Classes.map (eSl (eI .i64)))]), (3, .own (r3.map (eI .i64))), (4, .lit (.int .i64 y4_L1)), (5, .lit (.int .i64 y5_L1)), (22, .lit (.bool true))]) (by kernel_rfl) (by kernel_rfl) (by kernel_rfl) ?_
      refine Pt.cond_t (p' := [1, 1, 1, 1, 0, 1, 0, 0, 1, 0, 0, 1, 0]) (F' := [(0, .agg [.lit (.int .i64 x0.Rows), .sl (x0.Classes.map (eSl (eI .i64)))]), (1, .box [.lit (.int .i64 x0.Rows), .sl (x0.Classes.map (eSl (eI .i64)))]), (3, .own (r3.map (eI .i64))), (4, .lit (.int .i64 y4_L1)), (5, .lit (.int .i64 y5_L1))]) (y := (.tmp 22)) (by kernel_rfl) (by kernel_rfl) (by kernel_rfl) (by kernel_rfl) ?_
      refine Pt.reg (by kernel_rfl) ?_
      refine AtO.seg 3 (by kernel_rfl) ?_
      refine AtO.done (p' := [1, 1, 1, 1, 0, 1, 0, 0, 1, 1]) (F' := [(0, .agg [.lit (.int .i64 x0.Rows), .sl (x0.Classes.map (eSl (eI .i64)))]), (1, .box [.lit (.int .i64 x0.Rows), .sl (x0.Classes.map (eSl (eI .i64)))]), (3, .own (r3.map (eI .i64))), (4, .lit (.int .i64 ((IntKind.wrap .i64 (y4_L1 + 1))))), (5, .lit (.int .i64 y5_L1))]) (by kernel_rfl) (by kernel_rfl) (by kernel_rfl) ?_
      exact h
    · have h := ite_f h (beq_f hc)
      refine AtO.done (p' := [1, 1, 1, 1, 0, 1, 0, 0, 1, 0, 0, 1]) (F' := [(0, .agg [.lit (.int .i64 x0.Rows), .sl (x0.Classes.map (eSl (eI .i64)))]), (1, .box [.lit (.int .i64 x0.Rows), .sl (x0.Classes.map (eSl (eI .i64)))]), (3, .own (r3.map (eI .i64))), (4, .lit (.int .i64 y4_L1)), (5, .lit (.int .i64 y5_L1)), (22, .lit (.bool false))]) (by kernel_rfl) (by kernel_rfl) (by kernel_rfl) ?_
      refine Pt.cond_f (p' := [1, 1, 1, 1, 0, 1, 0, 0, 1, 0, 0, 1, 1]) (F' := [(0, .agg [.lit (.int .i64 x0.Rows), .sl (x0.Classes.map (eSl (eI .i64)))]), (1, .box [.lit (.int .i64 x0.Rows), .sl (x0.Classes.map (eSl (eI .i64)))]), (3, .own (r3.map (eI .i64))), (4, .lit (.int .i64 y4_L1)), (5, .lit (.int .i64 y5_L1))]) (y := (.tmp 22)) (by kernel_rfl) (by kernel_rfl) (by kernel_rfl) (by kernel_rfl) ?_
      refine Pt.skip (p' := [1, 1, 1, 1, 0, 1, 0, 0, 1, 1]) (by kernel_rfl) (by kernel_rfl) ?_
      exact h
  · have h := ite_f h (of_decide_eq_false hc)
    refine AtO.done (p' := [1, 1, 1, 1, 0, 1, 0, 0, 0, 1]) (F' := [(0, .agg [.lit (.int .i64 x0.Rows), .sl (x0.Classes.map (eSl (eI .i64)))]), (1, .box [.lit (.int .i64 x0.Rows), .sl (x0.Classes.map (eSl (eI .i64)))]), (3, .own (r3.map (eI .i64))), (4, .lit (.int .i64 y4_L1)), (5, .lit (.int .i64 y5_L1)), (14, .lit (.bool false))]) (by kernel_rfl) (by kernel_rfl) (by kernel_rfl) ?_
    refine Pt.cond_f (p' := [1, 1, 1, 1, 0, 1, 0, 0, 0, 1, 1]) (F' := [(4, .lit (.int .i64 y4_L1))]) (y := (.tmp 14)) (by kernel_rfl) (by kernel_rfl) (by kernel_rfl) (by kernel_rfl) ?_
    refine Pt.exit (p' := [1, 1, 1, 1, 1, 0]) (F' := [(4, .lit (.int .i64 y4_L1))]) (by kernel_rfl) (by kernel_rfl) (by kernel_rfl) ?_
    refine Pt.reg (by kernel_rfl) ?_
    refine AtO.seg 2 (by kernel_rfl) ?_
    refine AtO.done (p' := [1, 1, 1, 1, 1, 1]) (F' := [(2, .lit (.int .i64 y4_L1))]) (by kernel_rfl) (by kernel_rfl) (by kernel_rfl) ?_
    exact Pt.ret y4_L1 (by kernel_rfl) (by kernel_rfl) h
theorem L2_step (x0 : api_Partition) (r3 : List Int) (y4_L2 : Int) (y5_L1 : Int) (φ : Int → Prop) (h :
    drossref08_Rank.L1 x0 r3 y4_L2 ((IntKind.wrap .i64 (y5_L1 + 1))) φ) : L2 x0 r3 y4_L2 y5_L1 φ := by
  unfold L2
  refine Pt.reg (by kernel_rfl) ?_
  refine AtO.seg 3 (by kernel_rfl) ?_
  refine AtO.done (p' := [1, 1, 1, 1, 0, 1, 0]) (F' := [(0, .agg [.lit (.int .i64 x0.Rows), .sl (x0.Classes.map (eSl (eI .i64)))]), (1, .box [.lit (.int .i64 x0.Rows), .sl (x0.Classes.map (eSl (eI .i64)))]), (3, .own (r3.map (eI .i64))), (4, .lit (.int .i64 y4_L2)), (5, .lit (.int .i64 ((IntKind.wrap .i64 (y5_L1 + 1)))))]) (by kernel_rfl) (by kernel_rfl) (by kernel_rfl) ?_
  exact h
theorem enter (x0 : api_Partition) (φ : Int → Prop) (h :
    ∃ r1 : Bool, drossref08_Valid.C x0 r1 ∧
    (if r1 = true then
      ∃ r3 : List Int, drossref08_Labels.C x0 r3 ∧
      drossref08_Rank.L1 x0 r3 0 0 φ
    else
      φ 0)) : ∃ r, φ r ∧ C x0 r := by
  refine Ret.of_at (E := env) (f := 18) (fd := Tryd.f18) (body := B) (p := [0]) (V := W) (F := [(0, .agg [.lit (.int .i64 x0.Rows), .sl (x0.Classes.map (eSl (eI .i64)))]), (1, .undef), (2, .undef), (3, .undef), (4, .undef), (5, .undef), (8, .undef), (14, .undef), (22, .undef)]) (res := res) (φ := φ) (ds := [.agg [.lit (.int .i64 x0.Rows), .sl (x0.Classes.map (eSl (eI .i64)))]]) (by kernel_rfl) (by kernel_rfl) (by kernel_rfl) ⟨Nat.le_of_ble_eq_true (by kernel_rfl), Nat.le_of_ble_eq_true (by kernel_rfl)⟩ (by kernel_rfl) (by kernel_rfl) (by kernel_rfl) ?_
  refine Pt.reg (by kernel_rfl) ?_
  refine AtO.seg 2 (by kernel_rfl) ?_
  refine AtO.done (p' := [1, 0, 0]) (F' := [(0, .agg [.lit (.int .i64 x0.Rows), .sl (x0.Classes.map (eSl (eI .i64)))]), (1, .box [.lit (.int .i64 x0.Rows), .sl (x0.Classes.map (eSl (eI .i64)))])]) (by kernel_rfl) (by kernel_rfl) (by kernel_rfl) ?_
  refine Pt.reg (by kernel_rfl) ?_
  obtain ⟨r1, h2, h⟩ := h
  refine AtO.seg 1 (by kernel_rfl) ?_
  refine AtO.call0 (x := (.func 16)) (g := 16) (caps := []) (agl := [.opn (.tmp 6)]) (ds := [.agg [.lit (.int .i64 x0.Rows), .sl (x0.Classes.map (eSl (eI .i64)))]]) (r := .lit (.bool r1)) (r' := .lit (.bool r1)) (ms := [none]) (by kernel_rfl) (by kernel_rfl) (by kernel_rfl) (by kernel_rfl) (by kernel_rfl) (by kernel_rfl) (pass_snap (a := .opn (.tmp 6)) (d0 := .agg [.lit (.int .i64 x0.Rows), .sl (x0.Classes.map (eSl (eI .i64)))]) (d := .agg [.lit (.int .i64 x0.Rows), .sl (x0.Classes.map (eSl (eI .i64)))]) (by kernel_rfl) (by kernel_rfl) (by kernel_rfl) pass_nil) h2 rfl (by kernel_rfl) ?_
  refine AtO.putb (fun hc => ?_) (fun hc => ?_)
  · have h := ite_t h (id hc)
    refine AtO.seg 1 (by kernel_rfl) ?_
    refine AtO.done (p' := [1, 0, 1]) (F' := [(0, .agg [.lit (.int .i64 x0.Rows), .sl (x0.Classes.map (eSl (eI .i64)))]), (1, .box [.lit (.int .i64 x0.Rows), .sl (x0.Classes.map (eSl (eI .i64)))]), (8, .lit (.bool false))]) (by kernel_rfl) (by kernel_rfl) (by kernel_rfl) ?_
    refine Pt.cond_f (p' := [1, 0, 1, 1]) (F' := [(0, .agg [.lit (.int .i64 x0.Rows), .sl (x0.Classes.map (eSl (eI .i64)))]), (1, .box [.lit (.int .i64 x0.Rows), .sl (x0.Classes.map (eSl (eI .i64)))])]) (y := (.tmp 8)) (by kernel_rfl) (by kernel_rfl) (by kernel_rfl) (by kernel_rfl) ?_
    refine Pt.skip (p' := [1, 1, 0]) (by kernel_rfl) (by kernel_rfl) ?_
    refine Pt.reg (by kernel_rfl) ?_
    obtain ⟨r3, h4, h⟩ := h
    refine AtO.seg 1 (by kernel_rfl) ?_
    refine AtO.call0 (x := (.func 39)) (g := 39) (caps := []) (agl := [.opn (.tmp 9)]) (ds := [.agg [.lit (.int .i64 x0.Rows), .sl (x0.Classes.map (eSl (eI .i64)))]]) (r := .own (r3.map (eI .i64))) (r' := .own (r3.map (eI .i64))) (ms := [none]) (by kernel_rfl) (by kernel_rfl) (by kernel_rfl) (by kernel_rfl) (by kernel_rfl) (by kernel_rfl) (pass_snap (a := .opn (.tmp 9)) (d0 := .agg [.lit (.int .i64 x0.Rows), .sl (x0.Classes.map (eSl (eI .i64)))]) (d := .agg [.lit (.int .i64 x0.Rows), .sl (x0.Classes.map (eSl (eI .i64)))]) (by kernel_rfl) (by kernel_rfl) (by kernel_rfl) pass_nil) h4 (flat_ow (e := (eI .i64)) (fun _ => rfl)) (by kernel_rfl) ?_
    refine AtO.seg 1 (by kernel_rfl) ?_
    refine AtO.done (p' := [1, 1, 1, 0]) (F' := [(0, .agg [.lit (.int .i64 x0.Rows), .sl (x0.Classes.map (eSl (eI .i64)))]), (1, .box [.lit (.int .i64 x0.Rows), .sl (x0.Classes.map (eSl (eI .i64)))]), (3, .own (r3.map (eI .i64)))]) (by kernel_rfl) (by kernel_rfl) (by kernel_rfl) ?_
    refine Pt.reg (by kernel_rfl) ?_
    refine AtO.seg 1 (by kernel_rfl) ?_
    refine AtO.done (p' := [1, 1, 1, 1, 0, 0]) (F' := [(0, .agg [.lit (.int .i64 x0.Rows), .sl (x0.Classes.map (eSl (eI .i64)))]), (1, .box [.lit (.int .i64 x0.Rows), .sl (x0.Classes.map (eSl (eI .i64)))]), (3, .own (r3.map (eI .i64))), (4, .lit (.int .i64 0))]) (by kernel_rfl) (by kernel_rfl) (by kernel_rfl) ?_
    refine Pt.reg (by kernel_rfl) ?_
    refine AtO.seg 1 (by kernel_rfl) ?_
    refine AtO.done (p' := [1, 1, 1, 1, 0, 1, 0]) (F' := [(0, .agg [.lit (.int .i64 x0.Rows), .sl (x0.Classes.map (eSl (eI .i64)))]), (1, .box [.lit (.int .i64 x0.Rows), .sl (x0.Classes.map (eSl (eI .i64)))]), (3, .own (r3.map (eI .i64))), (4, .lit (.int .i64 0)), (5, .lit (.int .i64 0))]) (by kernel_rfl) (by kernel_rfl) (by kernel_rfl) ?_
    exact h
  · have h := ite_f h (fls hc)
    refine AtO.seg 1 (by kernel_rfl) ?_
    refine AtO.done (p' := [1, 0, 1]) (F' := [(0, .agg [.lit (.int .i64 x0.Rows), .sl (x0.Classes.map (eSl (eI .i64)))]), (1, .box [.lit (.int .i64 x0.Rows), .sl (x0.Classes.map (eSl (eI .i64)))]), (8, .lit (.bool true))]) (by kernel_rfl) (by kernel_rfl) (by kernel_rfl) ?_
    refine Pt.cond_t (p' := [1, 0, 1, 0, 0]) (F' := []) (y := (.tmp 8)) (by kernel_rfl) (by kernel_rfl) (by kernel_rfl) (by kernel_rfl) ?_
    refine Pt.reg (by kernel_rfl) ?_
    refine AtO.seg 1 (by kernel_rfl) ?_
    refine AtO.done (p' := [1, 0, 1, 0, 1]) (F' := [(2, .lit (.int .i64 0))]) (by kernel_rfl) (by kernel_rfl) (by kernel_rfl) ?_
    exact Pt.ret 0 (by kernel_rfl) (by kernel_rfl) h
end drossref08_Rank
end Go.Own

namespace Go.Own
def free : List Bool → Nat
  | [] => 0
  | b :: l => (if b then 0 else 1) + free l
theorem free_replicate (n : Nat) : free (List.replicate n false) = n := by
  induction n with
  | zero => rfl
  | succ n ih => simp only [List.replicate_succ, free, ih]; simp; omega
theorem free_set : ∀ {l : List Bool} {n : Nat}, l[n]? = some false → free (l.set n true) + 1 = free l
  | [], n, h => by simp at h
  | b :: l, 0, h => by simp at h; subst h; simp [free]; omega
  | b :: l, n + 1, h => by
    simp only [List.getElem?_cons_succ] at h
    have := free_set h
    simp only [List.set_cons_succ, free]; omega
theorem free_lset {l : List Bool} {i : Int} (h : lget l i = some false) : free (lset l i true) + 1 = free l := free_set (lget_some h).2
theorem okClass_inv {rows : Int} : ∀ {r : List Int} {i b : Int} {s s' : List Bool}, -1 ≤ b → (s.length : Int) = rows → okClass rows b s (i :: r) = some s' → b < i ∧ i < rows ∧ lget s i = some false ∧ okClass rows i (lset s i true) r = some s' := by
  intro r i b s s' hb hs h
  simp only [okClass] at h
  split at h
  · cases h
  · rename_i h1
    simp only [not_or] at h1
    obtain ⟨x, hx⟩ := lget_lt (l := s) (i := i) (by omega) (by omega)
    refine ⟨by omega, by omega, ?_, h⟩
    rw [hx] at h1 ⊢
    cases x with
    | true => exact absurd rfl h1.2.2
    | false => rfl
theorem okClass_free {rows : Int} : ∀ {r : List Int} {b : Int} {s s' : List Bool}, -1 ≤ b → (s.length : Int) = rows → okClass rows b s r = some s' → free s' + r.length = free s
  | [], b, s, s', hb, hs, h => by simp [okClass] at h; simp [h]
  | i :: r, b, s, s', hb, hs, h => by
    obtain ⟨h1, h2, h3, h4⟩ := okClass_inv hb hs h
    have := okClass_free (by omega) (by rw [lset_length]; exact hs) h4
    have h5 := free_lset h3
    simp only [List.length_cons]; omega
def extra : List (List Int) → Int
  | [] => 0
  | c :: cs => ((c.length : Int) - 1) + extra cs
theorem okClasses_inv {rows first : Int} {s : List Bool} {c : List Int} {cs : List (List Int)} (h : okClasses rows first s (c :: cs) = true) : ∃ a b r s', c = a :: b :: r ∧ first < a ∧ okClass rows (-1) s c = some s' ∧ okClasses rows a s' cs = true := by
  match c, h with
  | [], h => simp [okClasses] at h
  | [_], h => simp [okClasses] at h
  | a :: b :: r, h =>
    simp only [okClasses] at h
    split at h
    · cases h
    · rename_i h1
      cases ho : okClass rows (-1) s (a :: b :: r) with
      | none => rw [ho] at h; cases h
      | some s' => rw [ho] at h; exact ⟨a, b, r, s', rfl, by omega, rfl, h⟩
theorem extra_free {rows : Int} : ∀ {cs : List (List Int)} {first : Int} {s : List Bool}, (s.length : Int) = rows → okClasses rows first s cs = true → 0 ≤ extra cs ∧ extra cs ≤ free s
  | [], _, _, _, _ => by simp [extra]
  | c :: cs, first, s, hs, h => by
    obtain ⟨a, b, r, s', hc, h1, h2, h3⟩ := okClasses_inv h
    have h4 := okClass_free (by omega) hs h2
    have h5 := extra_free (by rw [okClass_len h2]; exact hs) h3
    subst hc
    simp only [extra, List.length_cons] at h4 ⊢
    omega
def rankF (p : api_Partition) : Int := if validF p then p.Rows - extra p.Classes else 0
theorem valid_ok {p : api_Partition} (h : validF p = true) : 0 ≤ p.Rows ∧ p.Rows ≤ 1000 ∧ okClasses p.Rows (-1) (List.replicate p.Rows.toNat false) p.Classes = true := by
  unfold validF at h
  split at h
  · cases h
  · split at h
    · cases h
    · exact ⟨by omega, by omega, h⟩
namespace partition_Rank
theorem loop {x0 : api_Partition} {φ : Int → Prop} (hb : Small x0) : ∀ (cs : List (List Int)) (k : Nat) (r first : Int) (s : List Bool), x0.Classes.drop k = cs → (s.length : Int) = x0.Rows → okClasses x0.Rows first s cs = true → (free s : Int) ≤ 1000 → -1000 ≤ r - free s → r ≤ 1000 →
    φ (r - extra cs) → L1 x0 r k φ
  | [], k, r, first, s, hd, hs, ho, h1, h2, h3, h => by
    apply L1_step
    have := drop_ge hd
    rw [if_neg (by omega)]
    simpa [extra] using h
  | c :: cs, k, r, first, s, hd, hs, ho, h1, h2, h3, h => by
    apply L1_step
    have hk := drop_lt hd
    rw [if_pos (by omega)]
    refine ⟨c, lget_drop hd, ?_⟩
    obtain ⟨a, b, t, s', hc, h4, h5, h6⟩ := okClasses_inv ho
    have h7 := okClass_free (by omega) hs h5
    have hcl : 2 ≤ c.length := by rw [hc]; simp
    have hB := hb.1
    unfold Big at hB
    rw [wrap_id (x := (c.length : Int) - 1) (by omega) (by omega), wrap_id (by omega) (by omega), wrap_succ (by omega)]
    refine loop hb cs (k + 1) _ a s' (drop_next hd) (by rw [okClass_len h5]; exact hs) h6 (by omega) (by omega) (by omega) ?_
    have : r - ((c.length : Int) - 1) - extra cs = r - extra (c :: cs) := by simp only [extra]; omega
    rw [this]; exact h
theorem spec {x0 : api_Partition} (hb : Small x0) : C x0 (rankF x0) := by
  obtain ⟨r, h1, h2⟩ := enter x0 (fun r => r = rankF x0) (by
    refine ⟨validF x0, partition_Valid.spec hb, ?_⟩
    unfold rankF
    split
    · rename_i hv
      obtain ⟨v1, v2, v3⟩ := valid_ok hv
      have hf := free_replicate x0.Rows.toNat
      refine loop hb x0.Classes 0 x0.Rows (-1) _ rfl (by simp; omega) v3 ?_ ?_ (by omega) rfl
      · rw [hf]; omega
      · rw [hf]; omega
    · rfl)
  rw [← h1]; exact h2
end partition_Rank
def iota (n : Nat) : List Int := (List.range n).map fun (k : Nat) => (k : Int)
theorem iota_get {n k : Nat} (h : k < n) : (iota n)[k]? = some (k : Int) := by simp [iota, h]
def labClass (a : Int) : List Int → List Int → List Int
  | l, [] => l
  | l, i :: r => labClass a (lset l i a) r
def labCl : List Int → List (List Int) → List Int
  | l, [] => l
  | l, [] :: cs => labCl l cs
  | l, (a :: r) :: cs => labCl (labClass a l (a :: r)) cs
def labF (p : api_Partition) : List Int := labCl (iota p.Rows.toNat) p.Classes
theorem labClass_len {a : Int} : ∀ {l r : List Int}, (labClass a l r).length = l.length
  | _, [] => rfl
  | l, i :: r => by simp only [labClass]; rw [labClass_len, lset_length]
theorem labCl_len : ∀ {l : List Int} {cs : List (List Int)}, (labCl l cs).length = l.length
  | _, [] => rfl
  | l, [] :: cs => by simp only [labCl]; exact labCl_len
  | l, (a :: r) :: cs => by simp only [labCl]; rw [labCl_len, labClass_len]
theorem iota_len {n : Nat} : (iota n).length = n := by simp [iota]
namespace drossref08_Labels
theorem fill {x0 : api_Partition} {φ : List Int → Prop} (h0 : 0 ≤ x0.Rows) (h1 : x0.Rows ≤ 1000) (hL : L2 x0 (iota x0.Rows.toNat) 0 φ) : ∀ (m k : Nat), k + m = x0.Rows.toNat → L1 x0 (iota k ++ List.replicate m 0) k φ
  | 0, k, hk => by
    apply L1_step
    rw [if_neg (by omega)]
    have : k = x0.Rows.toNat := by omega
    simpa [this] using hL
  | m + 1, k, hk => by
    apply L1_step
    rw [if_pos (by omega)]
    have hl : (iota k).length = k := iota_len
    refine ⟨0, ?_, ?_⟩
    · rw [lget_nat, List.getElem?_append_right (by omega)]
      simp [hl]
    · rw [wrap_succ (by omega)]
      have : lset (iota k ++ List.replicate (m + 1) 0) (k : Int) (k : Int) = iota (k + 1) ++ List.replicate m 0 := by
        unfold lset
        rw [Int.toNat_natCast, List.set_append_right _ _ (by omega), hl, Nat.sub_self, List.replicate_succ, List.set_cons_zero]
        simp [iota, List.range_succ]
      rw [this]
      exact fill h0 h1 hL m (k + 1) (by omega)
theorem inner {x0 : api_Partition} {φ : List Int → Prop} {c : List Int} {a : Int} {j : Nat} (hc : x0.Classes[j]? = some c) (ha : c[0]? = some a) (hb : c.length < Big) (hj : j + 1 < Big) : ∀ (r : List Int) (k : Nat) (l : List Int) (b : Int) (s s' : List Bool), c.drop k = r → -1 ≤ b → l.length = s.length → (s.length : Int) = x0.Rows → okClass x0.Rows b s r = some s' →
    L2 x0 (labClass a l r) ((j + 1 : Nat) : Int) φ → L3 x0 l j k φ
  | [], k, l, b, s, s', hd, hbb, hl, hs, ho, h => by
    apply L3_step
    refine ⟨c, by rw [lget_nat]; exact hc, ?_⟩
    have := drop_ge hd
    rw [if_neg (by omega), wrap_succ hj]
    exact h
  | i :: r, k, l, b, s, s', hd, hbb, hl, hs, ho, h => by
    obtain ⟨h1, h2, h3, h4⟩ := okClass_inv hbb hs ho
    apply L3_step
    have hk := drop_lt hd
    refine ⟨c, by rw [lget_nat]; exact hc, ?_⟩
    rw [if_pos (by omega)]
    obtain ⟨x, hx⟩ := lget_lt (l := l) (i := i) (by omega) (by omega)
    refine ⟨i, lget_drop hd, a, by have := lget_nat (l := c) (k := 0); rw [ha] at this; exact this, x, hx, ?_⟩
    rw [wrap_succ (by unfold Big at hb; omega)]
    exact inner hc ha hb hj r (k + 1) _ i _ s' (drop_next hd) (by omega) (by rw [lset_length, lset_length]; exact hl) (by rw [lset_length]; exact hs) h4 h
theorem outer {x0 : api_Partition} {φ : List Int → Prop} (hb : Small x0) : ∀ (cs : List (List Int)) (k : Nat) (l : List Int) (first : Int) (s : List Bool), x0.Classes.drop k = cs → l.length = s.length → (s.length : Int) = x0.Rows → okClasses x0.Rows first s cs = true →
    φ (labCl l cs) → L2 x0 l k φ
  | [], k, l, first, s, hd, hl, hs, ho, h => by
    apply L2_step
    have := drop_ge hd
    rw [if_neg (by omega)]
    exact h
  | c :: cs, k, l, first, s, hd, hl, hs, ho, h => by
    obtain ⟨a, b, t, s', hc, h4, h5, h6⟩ := okClasses_inv ho
    apply L2_step
    have hk := drop_lt hd
    rw [if_pos (by omega)]
    have hcg := drop_get hd
    subst hc
    refine inner hcg (a := a) rfl (hb.2 _ (List.mem_of_getElem? hcg)) (by have := hb.1; omega) (a :: b :: t) 0 l (-1) s s' rfl (by omega) hl hs h5 ?_
    exact outer hb cs (k + 1) _ a s' (drop_next hd) (by rw [labClass_len, okClass_len h5]; exact hl) (by rw [okClass_len h5]; exact hs) h6 h
theorem spec {x0 : api_Partition} (hb : Small x0) (hv : validF x0 = true) : C x0 (labF x0) := by
  obtain ⟨v1, v2, v3⟩ := valid_ok hv
  obtain ⟨r, h1, h2⟩ := enter x0 (fun r => r = labF x0) (by
    refine ⟨by omega, ?_⟩
    have := fill (φ := fun r => r = labF x0) v1 v2 (outer hb x0.Classes 0 _ (-1) (List.replicate x0.Rows.toNat false) rfl (by rw [iota_len]; simp) (by simp; omega) v3 rfl) x0.Rows.toNat 0 (by omega)
    simpa [iota] using this)
  rw [← h1]; exact h2
end drossref08_Labels
def cnt : Nat → List Int → Int
  | _, [] => 0
  | k, x :: l => (if x = (k : Int) then 1 else 0) + cnt (k + 1) l
theorem cnt_set {a : Int} : ∀ {l : List Int} {n k : Nat}, l[n]? = some ((k + n : Nat) : Int) → cnt k (l.set n a) = cnt k l - (if a = ((k + n : Nat) : Int) then 0 else 1)
  | [], n, k, h => by simp at h
  | x :: l, 0, k, h => by
    simp only [List.getElem?_cons_zero, Nat.add_zero, Option.some.injEq] at h
    simp only [List.set_cons_zero, cnt, Nat.add_zero, h, if_true]
    split <;> omega
  | x :: l, n + 1, k, h => by
    simp only [List.getElem?_cons_succ] at h
    have := cnt_set (a := a) (l := l) (n := n) (k := k + 1) (by rw [h]; congr 2; omega)
    have e : k + 1 + n = k + (n + 1) := by omega
    rw [e] at this
    simp only [List.set_cons_succ, cnt, this]; omega
def SelfIn (l : List Int) (s : List Bool) : Prop := l.length = s.length ∧ ∀ n : Nat, s[n]? = some false → l[n]? = some (n : Int)
theorem SelfIn.step {l : List Int} {s : List Bool} {i a : Int} (h : SelfIn l s) (hi : lget s i = some false) : SelfIn (lset l i a) (lset s i true) ∧ cnt 0 (lset l i a) = cnt 0 l - (if a = i then 0 else 1) := by
  obtain ⟨h0, h1⟩ := lget_some hi
  have h2 := h.2 _ h1
  refine ⟨⟨by rw [lset_length, lset_length]; exact h.1, fun n hn => ?_⟩, ?_⟩
  · unfold lset at hn ⊢
    by_cases he : i.toNat = n
    · subst he
      rw [List.getElem?_set_self (List.getElem?_eq_some_iff.1 h1).1] at hn
      cases hn
    · rw [List.getElem?_set_ne he] at hn ⊢
      exact h.2 n hn
  · have := cnt_set (a := a) (l := l) (n := i.toNat) (k := 0) (by rw [Nat.zero_add]; exact h2)
    unfold lset
    rw [this, Nat.zero_add, Int.toNat_of_nonneg h0]
theorem lab_cnt {rows a : Int} : ∀ {r : List Int} {b : Int} {l : List Int} {s s' : List Bool}, -1 ≤ b → a ≤ b → (s.length : Int) = rows → SelfIn l s → okClass rows b s r = some s' → SelfIn (labClass a l r) s' ∧ cnt 0 (labClass a l r) = cnt 0 l - r.length
  | [], b, l, s, s', hb, hab, hs, hl, h => by
    simp only [okClass, Option.some.injEq] at h
    subst h
    exact ⟨hl, by simp [labClass]⟩
  | i :: r, b, l, s, s', hb, hab, hs, hl, h => by
    obtain ⟨h1, h2, h3, h4⟩ := okClass_inv hb hs h
    obtain ⟨k1, k2⟩ := hl.step (a := a) h3
    obtain ⟨m1, m2⟩ := lab_cnt (a := a) (b := i) (by omega) (by omega) (by rw [lset_length]; exact hs) k1 h4
    refine ⟨m1, ?_⟩
    simp only [labClass, List.length_cons]
    rw [m2, k2, if_neg (by omega)]
    omega
theorem labCl_cnt {rows : Int} : ∀ {cs : List (List Int)} {first : Int} {l : List Int} {s : List Bool}, (s.length : Int) = rows → SelfIn l s → okClasses rows first s cs = true → cnt 0 (labCl l cs) = cnt 0 l - extra cs
  | [], first, l, s, hs, hl, h => by simp [labCl, extra]
  | c :: cs, first, l, s, hs, hl, h => by
    obtain ⟨a, b, t, s', hc, h4, h5, h6⟩ := okClasses_inv h
    subst hc
    obtain ⟨h1, h2, h3, h7⟩ := okClass_inv (by omega) hs h5
    obtain ⟨k1, k2⟩ := hl.step (a := a) h3
    obtain ⟨m1, m2⟩ := lab_cnt (a := a) (b := a) (by omega) (by omega) (by rw [lset_length]; exact hs) k1 h7
    have := labCl_cnt (by rw [okClass_len h5]; exact hs) m1 h6
    have e : labCl l ((a :: b :: t) :: cs) = labCl (labClass a (lset l a a) (b :: t)) cs := rfl
    rw [e, this, m2, k2, if_pos rfl]
    simp only [extra, List.length_cons]; omega
theorem cnt_iota : ∀ (n k : Nat) , cnt k ((List.range' k n).map fun (j : Nat) => (j : Int)) = n
  | 0, k => by simp [cnt]
  | n + 1, k => by
    simp only [List.range'_succ, List.map_cons, cnt, if_true]
    rw [cnt_iota n (k + 1)]; omega
theorem labF_cnt {p : api_Partition} (hv : validF p = true) : cnt 0 (labF p) = p.Rows - extra p.Classes := by
  obtain ⟨v1, v2, v3⟩ := valid_ok hv
  unfold labF
  rw [labCl_cnt (rows := p.Rows) (s := List.replicate p.Rows.toNat false) (by simp; omega) ⟨by rw [iota_len]; simp, fun n hn => ?_⟩ v3]
  · have := cnt_iota p.Rows.toNat 0
    rw [← List.range_eq_range'] at this
    unfold iota
    rw [this]; omega
  · exact iota_get (by have := (List.getElem?_eq_some_iff.1 hn).1; simpa using this)
namespace drossref08_Rank
theorem loop {x0 : api_Partition} {l : List Int} {φ : Int → Prop} (h0 : x0.Rows ≤ 1000) (hl : (l.length : Int) = x0.Rows) : ∀ (r : List Int) (k : Nat) (n : Int), l.drop k = r → 0 ≤ n → n ≤ k → φ (n + cnt k r) → L1 x0 l n k φ
  | [], k, n, hd, h1, h2, h => by
    apply L1_step
    have := drop_ge hd
    rw [if_neg (by omega)]
    simpa [cnt] using h
  | x :: r, k, n, hd, h1, h2, h => by
    apply L1_step
    have hk := drop_lt hd
    rw [if_pos (by omega)]
    refine ⟨x, lget_drop hd, ?_⟩
    simp only [cnt] at h
    split
    · rename_i hx
      rw [if_pos hx] at h
      apply L2_step
      rw [wrap_succ (by omega), wrap_id (by omega) (by omega)]
      refine loop h0 hl r (k + 1) _ (drop_next hd) (by omega) (by omega) ?_
      rw [Int.add_assoc]; exact h
    · rename_i hx
      rw [if_neg hx, Int.zero_add] at h
      apply L2_step
      rw [wrap_succ (by omega)]
      exact loop h0 hl r (k + 1) _ (drop_next hd) h1 (by omega) h
theorem spec {x0 : api_Partition} (hb : Small x0) : C x0 (rankF x0) := by
  obtain ⟨r, h1, h2⟩ := enter x0 (fun r => r = rankF x0) (by
    refine ⟨validF x0, drossref08_Valid.spec hb, ?_⟩
    unfold rankF
    split
    · rename_i hv
      obtain ⟨v1, v2, v3⟩ := valid_ok hv
      refine ⟨labF x0, drossref08_Labels.spec hb hv, ?_⟩
      refine loop v2 ?_ (labF x0) 0 0 rfl (by omega) (by omega) ?_
      · unfold labF; rw [labCl_len, iota_len]; omega
      · rw [labF_cnt hv, Int.zero_add]
    · rfl)
  rw [← h1]; exact h2
end drossref08_Rank
end Go.Own

namespace Go.Own
open Go.Proofs D
set_option maxRecDepth 100000
set_option maxHeartbeats 4000000
namespace drosslaw08_awake
noncomputable def B : Code := (Tryd.f11.body).getD .skip
def W : List Nat := [0, 1, 2, 3, 4, 5, 6, 7, 8]
def res (r : Bool) : D × List D := (.lit (.bool r), [])
def C  (r : Bool) : Prop := Ret env 11 [] (res r).1 (res r).2
end drosslaw08_awake
end Go.Own

namespace Go.Own
set_option maxRecDepth 1000000
theorem drosslaw08_awake.run : callN env 400 11 [] = some (.lit (.bool true), []) := by kernel_rfl
theorem drosslaw08_awake.spec : drosslaw08_awake.C true := Ret.of drosslaw08_awake.run
end Go.Own

namespace Go.Own
open Go.Proofs D
set_option maxRecDepth 100000
set_option maxHeartbeats 4000000
namespace drosslaw08_PartitionValid
noncomputable def B : Code := (Tryd.f4.body).getD .skip
def W : List Nat := [0, 1, 2, 4, 12, 15, 16, 17, 18, 23]
def res (r : Bool) : D × List D := (.lit (.bool r), [])
def C (x0 : api_Partition) (r : Bool) : Prop := Ret env 4 [.agg [.lit (.int .i64 x0.Rows), .sl (x0.Classes.map (eSl (eI .i64)))]] (res r).1 (res r).2
def L2  (φ : Bool → Prop) : Prop := Pt env 4 W B [1, 0, 1, 0, 0] [] (Lv env 4 Tryd.f4 1 res φ)
def L1 (x0 : api_Partition) (y17_L1 : Int) (φ : Bool → Prop) : Prop := Pt env 4 W B [1, 1, 0, 1, 0] [(0, .agg [.lit (.int .i64 x0.Rows), .sl (x0.Classes.map (eSl (eI .i64)))]), (1, .box [.lit (.int .i64 x0.Rows), .sl (x0.Classes.map (eSl (eI .i64)))]), (15, .sl (x0.Classes.map (eSl (eI .i64)))), (16, .lit (.int .i64 ((x0.Classes.length : Int)))), (17, .lit (.int .i64 y17_L1))] (Lv env 4 Tryd.f4 1 res φ)
theorem L2_step  (φ : Bool → Prop) (h :
    ∃ r3 : Bool, drosslaw08_awake.C  r3 ∧
    φ r3) : L2  φ := by
  unfold L2
  refine Pt.reg (by kernel_rfl) ?_
  obtain ⟨r3, h4, h⟩ := h
  refine AtO.call0 (x := (.func 11)) (g := 11) (caps := []) (agl := []) (ds := []) (r := .lit (.bool r3)) (r' := .lit (.bool r3)) (ms := []) (by kernel_rfl) (by kernel_rfl) (by kernel_rfl) (by kernel_rfl) (by kernel_rfl) (by kernel_rfl) pass_nil h4 rfl (by kernel_rfl) ?_
  refine AtO.seg 1 (by kernel_rfl) ?_
  refine AtO.done (p' := [1, 0, 1, 0, 1]) (F' := [(2, .lit (.bool r3))]) (by kernel_rfl) (by kernel_rfl) (by kernel_rfl) ?_
  exact Pt.ret r3 (by kernel_rfl) (by kernel_rfl) h
theorem L1_step (x0 : api_Partition) (y17_L1 : Int) (φ : Bool → Prop) (h :
    (if y17_L1 < (x0.Classes.length : Int) then
      ∃ a5, lget x0.Classes y17_L1 = some a5 ∧
      (if 60 < (a5.length : Int) then
        φ true
      else
        drosslaw08_PartitionValid.L1 x0 ((IntKind.wrap .i64 (y17_L1 + 1))) φ)
    else
      ∃ r7 : Bool, partition_Valid.C x0 r7 ∧
      ∃ r9 : Bool, drossref08_Valid.C x0 r9 ∧
      (if r7 = r9 then
        ∃ r11 : Int, partition_Rank.C x0 r11 ∧
        ∃ r13 : Int, drossref08_Rank.C x0 r13 ∧
        φ ((r11 == r13))
      else
        φ false))) : L1 x0 y17_L1 φ := by
  unfold L1
  refine Pt.loop (p' := [1, 1, 0, 1, 0, 0, 0]) (by kernel_rfl) (by kernel_rfl) ?_
  refine Pt.reg (by kernel_rfl) ?_
  refine AtO.bool (b := (decide (y17_L1 < (x0.Classes.length : Int)))) (by kernel_rfl) (by kernel_rfl) (fun hc => ?_) (fun hc => ?_)
  · have h := ite_t h (of_decide_eq_true hc)
    refine AtO.done (p' := [1, 1, 0, 1, 0, 0, 1, 0]) (F' := [(0, .agg [.lit (.int .i64 x0.Rows), .sl (x0.Classes.map (eSl (eI .i64)))]), (1, .box [.lit (.int .i64 x0.Rows), .sl (x0.Classes.map (eSl (eI .i64)))]), (15, .sl (x0.Classes.map (eSl (eI .i64)))), (16, .lit (.int .i64 ((x0.Classes.length : Int)))), (17, .lit (.int .i64 y17_L1)), (18, .lit (.bool true))]) (by kernel_rfl) (by kernel_rfl) (by kernel_rfl) ?_
    refine Pt.cond_t (p' := [1, 1, 0, 1, 0, 0, 1, 0, 0]) (F' := [(0, .agg [.lit (.int .i64 x0.Rows), .sl (x0.Classes.map (eSl (eI .i64)))]), (1, .box [.lit (.int .i64 x0.Rows), .sl (x0.Classes.map (eSl (eI .i64)))]), (15, .sl (x0.Classes.map (eSl (eI .i64)))), (16, .lit (.int .i64 ((x0.Classes.length : Int)))), (17, .lit (.int .i64 y17_L1))]) (y := (.tmp 18)) (by kernel_rfl) (by kernel_rfl) (by kernel_rfl) (by kernel_rfl) ?_
    refine Pt.skip (p' := [1, 1, 0, 1, 0, 0, 1, 1, 0, 0, 0]) (by kernel_rfl) (by kernel_rfl) ?_
    refine Pt.reg (by kernel_rfl) ?_
    obtain ⟨a5, h6, h⟩ := h
    refine AtO.val (by kernel_rfl) (val_idx_sl (t := 29) (x := (.tmp 15)) (ix := (.tmp 17)) (et := 38) (k := 1) (e := (eSl (eI .i64))) (l := x0.Classes) (i := y17_L1) (q := .i64) (a := a5) (by kernel_rfl) (by kernel_rfl) (by kernel_rfl) (by kernel_rfl) (by kernel_rfl) h6 (by kernel_rfl)) ?_
    refine AtO.seg 2 (by kernel_rfl) ?_
    refine AtO.done (p' := [1, 1, 0, 1, 0, 0, 1, 1, 0, 0, 1, 0]) (F' := [(0, .agg [.lit (.int .i64 x0.Rows), .sl (x0.Classes.map (eSl (eI .i64)))]), (1, .box [.lit (.int .i64 x0.Rows), .sl (x0.Classes.map (eSl (eI .i64)))]), (4, .sl (a5.map (eI .i64))), (15, .sl (x0.Classes.map (eSl (eI .i64)))), (16, .lit (.int .i64 ((x0.Classes.length : Int)))), (17, .lit (.int .i64 y17_L1))]) (by kernel_rfl) (by kernel_rfl) (by kernel_rfl) ?_
    refine Pt.reg (by kernel_rfl) ?_
    refine AtO.seg 1 (by kernel_rfl) ?_
    refine AtO.val (by kernel_rfl) (val_len (x := (.tmp 21)) (t := 38) (et := 3) (d := .sl (a5.map (eI .i64))) (e := (eI .i64)) (l := a5) (by kernel_rfl) (by kernel_rfl) elemsOf_sl (by kernel_rfl)) ?_
    refine AtO.bool (b := (decide (60 < (a5.length : Int)))) (by kernel_rfl) (by kernel_rfl) (fun hc => ?_) (fun hc => ?_)
    · have h := ite_t h (of_decide_eq_true hc)
      refine AtO.done (p' := [1, 1, 0, 1, 0, 0, 1, 1, 0, 0, 1, 1]) (F' := [(0, .agg [.lit (.int .i64 x0.Rows), .sl (x0.Classes.map (eSl (eI .i64)))]), (1, .box [.lit (.int .i64 x0.Rows), .sl (x0.Classes.map (eSl (eI .i64)))]), (15, .sl (x0.Classes.map (eSl (eI .i64)))), (16, .lit (.int .i64 ((x0.Classes.length : Int)))), (17, .lit (.int .i64 y17_L1)), (23, .lit (.bool true))]) (by kernel_rfl) (by kernel_rfl) (by kernel_rfl) ?_
      refine Pt.cond_t (p' := [1, 1, 0, 1, 0, 0, 1, 1, 0, 0, 1, 1, 0, 0]) (F' := []) (y := (.tmp 23)) (by kernel_rfl) (by kernel_rfl) (by kernel_rfl) (by kernel_rfl) ?_
      refine Pt.reg (by kernel_rfl) ?_
      refine AtO.seg 1 (by kernel_rfl) ?_
      refine AtO.done (p' := [1, 1, 0, 1, 0, 0, 1, 1, 0, 0, 1, 1, 0, 1]) (F' := [(2, .lit (.bool true))]) (by kernel_rfl) (by kernel_rfl) (by kernel_rfl) ?_
      exact Pt.ret true (by kernel_rfl) (by kernel_rfl) h
    · have h := ite_f h (of_decide_eq_false hc)
      refine AtO.done (p' := [1, 1, 0, 1, 0, 0, 1, 1, 0, 0, 1, 1]) (F' := [(0, .agg [.lit (.int .i64 x0.Rows), .sl (x0.Classes.map (eSl (eI .i64)))]), (1, .box [.lit (.int .i64 x0.Rows), .sl (x0.Classes.map (eSl (eI .i64)))]), (15, .sl (x0.Classes.map (eSl (eI .i64)))), (16, .lit (.int .i64 ((x0.Classes.length : Int)))), (17, .lit (.int .i64 y17_L1)), (23, .lit (.bool false))]) (by kernel_rfl) (by kernel_rfl) (by kernel_rfl) ?_
      refine Pt.cond_f (p' := [1, 1, 0, 1, 0, 0, 1, 1, 0, 0, 1, 1, 1]) (F' := [(0, .agg [.lit (.int .i64 x0.Rows), .sl (x0.Classes.map (eSl (eI .i64)))]), (1, .box [.lit (.int .i64 x0.Rows), .sl (x0.Classes.map (eSl (eI .i64)))]), (15, .sl (x0.Classes.map (eSl (eI .i64)))), (16, .lit (.int .i64 ((x0.Classes.length : Int)))), (17, .lit (.int .i64 y17_L1))]) (y := (.tmp 23)) (by kernel_rfl) (by kernel_rfl) (by kernel_rfl) (by kernel_rfl) ?_
      refine Pt.skip (p' := [1, 1, 0, 1, 0, 0, 1, 1, 1]) (by kernel_rfl) (by kernel_rfl) ?_
      refine Pt.reg (by kernel_rfl) ?_
      refine AtO.seg 2 (by kernel_rfl) ?_
      refine AtO.done (p' := [1, 1, 0, 1, 0]) (F' := [(0, .agg [.lit (.int .i64 x0.Rows), .sl (x0.Classes.map (eSl (eI .i64)))]), (1, .box [.lit (.int .i64 x0.Rows), .sl (x0.Classes.map (eSl (eI .i64)))]), (15, .sl (x0.Classes.map (eSl (eI .i64)))), (16, .lit (.int .i64 ((x0.Classes.length : Int)))), (17, .lit (.int .i64 ((IntKind.wrap .i64 (y17_L1 + 1)))))]) (by kernel_rfl) (by kernel_rfl) (by kernel_rfl) ?_
      exact h
  · have h := ite_f h (of_decide_eq_false hc)
    refine AtO.done (p' := [1, 1, 0, 1, 0, 0, 1, 0]) (F' := [(0, .agg [.lit (.int .i64 x0.Rows), .sl (x0.Classes.map (eSl (eI .i64)))]), (1, .box [.lit (.int .i64 x0.Rows), .sl (x0.Classes.map (eSl (eI .i64)))]), (15, .sl (x0.Classes.map (eSl (eI .i64)))), (16, .lit (.int .i64 ((x0.Classes.length : Int)))), (17, .lit (.int .i64 y17_L1)), (18, .lit (.bool false))]) (by kernel_rfl) (by kernel_rfl) (by kernel_rfl) ?_
    refine Pt.cond_f (p' := [1, 1, 0, 1, 0, 0, 1, 0, 1]) (F' := [(0, .agg [.lit (.int .i64 x0.Rows), .sl (x0.Classes.map (eSl (eI .i64)))]), (1, .box [.lit (.int .i64 x0.Rows), .sl (x0.Classes.map (eSl (eI .i64)))])]) (y := (.tmp 18)) (by kernel_rfl) (by kernel_rfl) (by kernel_rfl) (by kernel_rfl) ?_
    refine Pt.exit (p' := [1, 1, 1, 0]) (F' := [(0, .agg [.lit (.int .i64 x0.Rows), .sl (x0.Classes.map (eSl (eI .i64)))]), (1, .box [.lit (.int .i64 x0.Rows), .sl (x0.Classes.map (eSl (eI .i64)))])]) (by kernel_rfl) (by kernel_rfl) (by kernel_rfl) ?_
    refine Pt.reg (by kernel_rfl) ?_
    obtain ⟨r7, h8, h⟩ := h
    refine AtO.seg 1 (by kernel_rfl) ?_
    refine AtO.callD (x := (.func 15)) (g := 15) (caps := []) (agl := [.opn (.tmp 25)]) (ds := [.agg [.lit (.int .i64 x0.Rows), .sl (x0.Classes.map (eSl (eI .i64)))]]) (r := .lit (.bool r7)) (r' := .lit (.bool r7)) (by kernel_rfl) (by kernel_rfl) (by kernel_rfl) (by kernel_rfl) (by kernel_rfl) (pass_snap (a := .opn (.tmp 25)) (d0 := .agg [.lit (.int .i64 x0.Rows), .sl (x0.Classes.map (eSl (eI .i64)))]) (d := .agg [.lit (.int .i64 x0.Rows), .sl (x0.Classes.map (eSl (eI .i64)))]) (by kernel_rfl) (by kernel_rfl) (by kernel_rfl) pass_nil) h8 (by kernel_rfl) (by kernel_rfl) ?_
    obtain ⟨r9, h10, h⟩ := h
    refine AtO.seg 1 (by kernel_rfl) ?_
    refine AtO.call0 (x := (.func 16)) (g := 16) (caps := []) (agl := [.opn (.tmp 27)]) (ds := [.agg [.lit (.int .i64 x0.Rows), .sl (x0.Classes.map (eSl (eI .i64)))]]) (r := .lit (.bool r9)) (r' := .lit (.bool r9)) (ms := [none]) (by kernel_rfl) (by kernel_rfl) (by kernel_rfl) (by kernel_rfl) (by kernel_rfl) (by kernel_rfl) (pass_snap (a := .opn (.tmp 27)) (d0 := .agg [.lit (.int .i64 x0.Rows), .sl (x0.Classes.map (eSl (eI .i64)))]) (d := .agg [.lit (.int .i64 x0.Rows), .sl (x0.Classes.map (eSl (eI .i64)))]) (by kernel_rfl) (by kernel_rfl) (by kernel_rfl) pass_nil) h10 rfl (by kernel_rfl) ?_
    refine AtO.bool (b := (r7 == r9)) (by kernel_rfl) (by kernel_rfl) (fun hc => ?_) (fun hc => ?_)
    · have h := ite_t h (bbeq_t hc)
      obtain ⟨r11, h12, h⟩ := h
      refine AtO.seg 2 (by kernel_rfl) ?_
      refine AtO.callD (x := (.func 17)) (g := 17) (caps := []) (agl := [.opn (.tmp 31)]) (ds := [.agg [.lit (.int .i64 x0.Rows), .sl (x0.Classes.map (eSl (eI .i64)))]]) (r := .lit (.int .i64 r11)) (r' := .lit (.int .i64 r11)) (by kernel_rfl) (by kernel_rfl) (by kernel_rfl) (by kernel_rfl) (by kernel_rfl) (pass_snap (a := .opn (.tmp 31)) (d0 := .agg [.lit (.int .i64 x0.Rows), .sl (x0.Classes.map (eSl (eI .i64)))]) (d := .agg [.lit (.int .i64 x0.Rows), .sl (x0.Classes.map (eSl (eI .i64)))]) (by kernel_rfl) (by kernel_rfl) (by kernel_rfl) pass_nil) h12 (by kernel_rfl) (by kernel_rfl) ?_
      obtain ⟨r13, h14, h⟩ := h
      refine AtO.seg 1 (by kernel_rfl) ?_
      refine AtO.call0 (x := (.func 18)) (g := 18) (caps := []) (agl := [.opn (.tmp 33)]) (ds := [.agg [.lit (.int .i64 x0.Rows), .sl (x0.Classes.map (eSl (eI .i64)))]]) (r := .lit (.int .i64 r13)) (r' := .lit (.int .i64 r13)) (ms := [none]) (by kernel_rfl) (by kernel_rfl) (by kernel_rfl) (by kernel_rfl) (by kernel_rfl) (by kernel_rfl) (pass_snap (a := .opn (.tmp 33)) (d0 := .agg [.lit (.int .i64 x0.Rows), .sl (x0.Classes.map (eSl (eI .i64)))]) (d := .agg [.lit (.int .i64 x0.Rows), .sl (x0.Classes.map (eSl (eI .i64)))]) (by kernel_rfl) (by kernel_rfl) (by kernel_rfl) pass_nil) h14 rfl (by kernel_rfl) ?_
      refine AtO.seg 3 (by kernel_rfl) ?_
      refine AtO.done (p' := [1, 1, 1, 1]) (F' := [(2, .lit (.bool ((r11 == r13))))]) (by kernel_rfl) (by kernel_rfl) (by kernel_rfl) ?_
      exact Pt.ret ((r11 == r13)) (by kernel_rfl) (by kernel_rfl) h
    · have h := ite_f h (bbeq_f hc)
      refine AtO.seg 8 (by kernel_rfl) ?_
      refine AtO.done (p' := [1, 1, 1, 1]) (F' := [(2, .lit (.bool false))]) (by kernel_rfl) (by kernel_rfl) (by kernel_rfl) ?_
      exact Pt.ret false (by kernel_rfl) (by kernel_rfl) h
theorem enter (x0 : api_Partition) (φ : Bool → Prop) (h :
    ∃ r1 : Bool, drosslaw08_awake.C  r1 ∧
    (if r1 = true then
      (if 60 < (x0.Classes.length : Int) then
        drosslaw08_PartitionValid.L2  φ
      else
        drosslaw08_PartitionValid.L1 x0 0 φ)
    else
      drosslaw08_PartitionValid.L2  φ)) : ∃ r, φ r ∧ C x0 r := by
  refine Ret.of_at (E := env) (f := 4) (fd := Tryd.f4) (body := B) (p := [0]) (V := W) (F := [(0, .agg [.lit (.int .i64 x0.Rows), .sl (x0.Classes.map (eSl (eI .i64)))]), (1, .undef), (2, .undef), (4, .undef), (12, .undef), (15, .undef), (16, .undef), (17, .undef), (18, .undef), (23, .undef)]) (res := res) (φ := φ) (ds := [.agg [.lit (.int .i64 x0.Rows), .sl (x0.Classes.map (eSl (eI .i64)))]]) (by kernel_rfl) (by kernel_rfl) (by kernel_rfl) ⟨Nat.le_of_ble_eq_true (by kernel_rfl), Nat.le_of_ble_eq_true (by kernel_rfl)⟩ (by kernel_rfl) (by kernel_rfl) (by kernel_rfl) ?_
  refine Pt.reg (by kernel_rfl) ?_
  refine AtO.seg 2 (by kernel_rfl) ?_
  refine AtO.done (p' := [1, 0, 0]) (F' := [(0, .agg [.lit (.int .i64 x0.Rows), .sl (x0.Classes.map (eSl (eI .i64)))]), (1, .box [.lit (.int .i64 x0.Rows), .sl (x0.Classes.map (eSl (eI .i64)))])]) (by kernel_rfl) (by kernel_rfl) (by kernel_rfl) ?_
  refine Pt.reg (by kernel_rfl) ?_
  obtain ⟨r1, h2, h⟩ := h
  refine AtO.call0 (x := (.func 11)) (g := 11) (caps := []) (agl := []) (ds := []) (r := .lit (.bool r1)) (r' := .lit (.bool r1)) (ms := []) (by kernel_rfl) (by kernel_rfl) (by kernel_rfl) (by kernel_rfl) (by kernel_rfl) (by kernel_rfl) pass_nil h2 rfl (by kernel_rfl) ?_
  refine AtO.putb (fun hc => ?_) (fun hc => ?_)
  · have h := ite_t h (id hc)
    refine AtO.seg 4 (by kernel_rfl) ?_
    refine AtO.val (by kernel_rfl) (val_len (x := (.tmp 9)) (t := 29) (et := 38) (d := .sl (x0.Classes.map (eSl (eI .i64)))) (e := (eSl (eI .i64))) (l := x0.Classes) (by kernel_rfl) (by kernel_rfl) elemsOf_sl (by kernel_rfl)) ?_
    refine AtO.bool (b := (decide (60 < (x0.Classes.length : Int)))) (by kernel_rfl) (by kernel_rfl) (fun hc => ?_) (fun hc => ?_)
    · have h := ite_t h (of_decide_eq_true hc)
      refine AtO.seg 1 (by kernel_rfl) ?_
      refine AtO.done (p' := [1, 0, 1]) (F' := [(0, .agg [.lit (.int .i64 x0.Rows), .sl (x0.Classes.map (eSl (eI .i64)))]), (1, .box [.lit (.int .i64 x0.Rows), .sl (x0.Classes.map (eSl (eI .i64)))]), (12, .lit (.bool true))]) (by kernel_rfl) (by kernel_rfl) (by kernel_rfl) ?_
      refine Pt.cond_t (p' := [1, 0, 1, 0, 0]) (F' := []) (y := (.tmp 12)) (by kernel_rfl) (by kernel_rfl) (by kernel_rfl) (by kernel_rfl) ?_
      exact h
    · have h := ite_f h (of_decide_eq_false hc)
      refine AtO.seg 1 (by kernel_rfl) ?_
      refine AtO.done (p' := [1, 0, 1]) (F' := [(0, .agg [.lit (.int .i64 x0.Rows), .sl (x0.Classes.map (eSl (eI .i64)))]), (1, .box [.lit (.int .i64 x0.Rows), .sl (x0.Classes.map (eSl (eI .i64)))]), (12, .lit (.bool false))]) (by kernel_rfl) (by kernel_rfl) (by kernel_rfl) ?_
      refine Pt.cond_f (p' := [1, 0, 1, 1]) (F' := [(0, .agg [.lit (.int .i64 x0.Rows), .sl (x0.Classes.map (eSl (eI .i64)))]), (1, .box [.lit (.int .i64 x0.Rows), .sl (x0.Classes.map (eSl (eI .i64)))])]) (y := (.tmp 12)) (by kernel_rfl) (by kernel_rfl) (by kernel_rfl) (by kernel_rfl) ?_
      refine Pt.skip (p' := [1, 1, 0, 0]) (by kernel_rfl) (by kernel_rfl) ?_
      refine Pt.reg (by kernel_rfl) ?_
      refine AtO.seg 2 (by kernel_rfl) ?_
      refine AtO.val (by kernel_rfl) (val_len (x := (.tmp 15)) (t := 29) (et := 38) (d := .sl (x0.Classes.map (eSl (eI .i64)))) (e := (eSl (eI .i64))) (l := x0.Classes) (by kernel_rfl) (by kernel_rfl) elemsOf_sl (by kernel_rfl)) ?_
      refine AtO.seg 1 (by kernel_rfl) ?_
      refine AtO.done (p' := [1, 1, 0, 1, 0]) (F' := [(0, .agg [.lit (.int .i64 x0.Rows), .sl (x0.Classes.map (eSl (eI .i64)))]), (1, .box [.lit (.int .i64 x0.Rows), .sl (x0.Classes.map (eSl (eI .i64)))]), (15, .sl (x0.Classes.map (eSl (eI .i64)))), (16, .lit (.int .i64 ((x0.Classes.length : Int)))), (17, .lit (.int .i64 0))]) (by kernel_rfl) (by kernel_rfl) (by kernel_rfl) ?_
      exact h
  · have h := ite_f h (fls hc)
    refine AtO.seg 7 (by kernel_rfl) ?_
    refine AtO.done (p' := [1, 0, 1]) (F' := [(0, .agg [.lit (.int .i64 x0.Rows), .sl (x0.Classes.map (eSl (eI .i64)))]), (1, .box [.lit (.int .i64 x0.Rows), .sl (x0.Classes.map (eSl (eI .i64)))]), (12, .lit (.bool true))]) (by kernel_rfl) (by kernel_rfl) (by kernel_rfl) ?_
    refine Pt.cond_t (p' := [1, 0, 1, 0, 0]) (F' := []) (y := (.tmp 12)) (by kernel_rfl) (by kernel_rfl) (by kernel_rfl) (by kernel_rfl) ?_
    exact h
end drosslaw08_PartitionValid
end Go.Own
