/- What the functions that the law reaches answer. No conditions. -/
import Derived.Test.YtgclpapfgmckbaaDoorBase6
import Derived.Test.YtgclpapfgmckbaaDoorOwn15
import Derived.Test.YtgclpapfgmckbaaDoorBase2
import Derived.Test.YtgclpapfgmckbaaDoorOwn17
import Derived.Test.YtgclpapfgmckbaaDoorOwn18
set_option linter.all false

namespace Go.Own
open Go.Proofs D
set_option maxRecDepth 100000
set_option maxHeartbeats 4000000
namespace partition_Valid
noncomputable def B : Code := (Tryd.f15.body).getD .skip
def W : List Nat := [0, 1, 2, 3, 4, 6, 7, 9, 17, 22, 23, 24, 25, 37, 41, 42, 43, 44, 61]
def res (r : Bool) : D × List D := (.lit (.bool r), [])
def C (x0 : api_Partition) (r : Bool) : Prop := Ret env 15 [.agg [.lit (.int .i64 x0.Rows), .sl (x0.Classes.map (eSl (eI .i64)))]] (res r).1 (res r).2
def L1 (x0 : api_Partition) (y3_L1 : List Bool) (y4_L1 : Int) (y24_L1 : Int) (φ : Bool → Prop) : Prop := Pt env 15 W B [1, 1, 1, 1, 0, 1, 0] [(0, .agg [.lit (.int .i64 x0.Rows), .sl (x0.Classes.map (eSl (eI .i64)))]), (1, .box [.lit (.int .i64 x0.Rows), .sl (x0.Classes.map (eSl (eI .i64)))]), (3, .own (y3_L1.map eB)), (4, .lit (.int .i64 y4_L1)), (22, .sl (x0.Classes.map (eSl (eI .i64)))), (23, .lit (.int .i64 ((x0.Classes.length : Int)))), (24, .lit (.int .i64 y24_L1))] (Lv env 15 Tryd.f15 1 res φ)
def L2 (x0 : api_Partition) (y3_L2 : List Bool) (a4 : Int) (a2 : List Int) (y7_L2 : Int) (y24_L2 : Int) (y43_L2 : Int) (φ : Bool → Prop) : Prop := Pt env 15 W B [1, 1, 1, 1, 0, 1, 0, 0, 1, 1, 0, 0, 1, 1, 1, 1, 1, 0] [(0, .agg [.lit (.int .i64 x0.Rows), .sl (x0.Classes.map (eSl (eI .i64)))]), (1, .box [.lit (.int .i64 x0.Rows), .sl (x0.Classes.map (eSl (eI .i64)))]), (3, .own (y3_L2.map eB)), (4, .lit (.int .i64 a4)), (6, .sl (a2.map (eI .i64))), (7, .lit (.int .i64 y7_L2)), (22, .sl (x0.Classes.map (eSl (eI .i64)))), (23, .lit (.int .i64 ((x0.Classes.length : Int)))), (24, .lit (.int .i64 y24_L2)), (41, .sl (a2.map (eI .i64))), (42, .lit (.int .i64 ((a2.length : Int)))), (43, .lit (.int .i64 y43_L2))] (Lv env 15 Tryd.f15 1 res φ)
theorem L1_step (x0 : api_Partition) (y3_L1 : List Bool) (y4_L1 : Int) (y24_L1 : Int) (φ : Bool → Prop) (h :
    (if y24_L1 < (x0.Classes.length : Int) then
      ∃ a2, lget x0.Classes y24_L1 = some a2 ∧
      (if (a2.length : Int) < 2 then
        φ false
      else
        ∃ a4, lget a2 0 = some a4 ∧
        (if a4 ≤ y4_L1 then
          φ false
        else
          partition_Valid.L2 x0 y3_L1 a4 a2 ((-1)) y24_L1 0 φ))
    else
      φ true)) : L1 x0 y3_L1 y4_L1 y24_L1 φ := by
  unfold L1
  refine Pt.loop (p' := [1, 1, 1, 1, 0, 1, 0, 0, 0]) (by kernel_rfl) (by kernel_rfl) ?_
  refine Pt.reg (by kernel_rfl) ?_
  refine AtO.bool (b := (decide (y24_L1 < (x0.Classes.length : Int)))) (by kernel_rfl) (by kernel_rfl) (fun hc => ?_) (fun hc => ?_)
  · have h := ite_t h (of_decide_eq_true hc)
    refine AtO.go (p' := [1, 1, 1, 1, 0, 1, 0, 0, 1, 1, 0, 0, 0]) (F' := [(0, .agg [.lit (.int .i64 x0.Rows), .sl (x0.Classes.map (eSl (eI .i64)))]), (1, .box [.lit (.int .i64 x0.Rows), .sl (x0.Classes.map (eSl (eI .i64)))]), (3, .own (y3_L1.map eB)), (4, .lit (.int .i64 y4_L1)), (22, .sl (x0.Classes.map (eSl (eI .i64)))), (23, .lit (.int .i64 ((x0.Classes.length : Int)))), (24, .lit (.int .i64 y24_L1))]) 2 (by kernel_rfl) (by kernel_rfl) ?_
    refine Pt.reg (by kernel_rfl) ?_
    obtain ⟨a2, h3, h⟩ := h
    refine AtO.val (by kernel_rfl) (val_idx_sl (t := 29) (x := (.tmp 22)) (ix := (.tmp 24)) (et := 38) (k := 1) (e := (eSl (eI .i64))) (l := x0.Classes) (i := y24_L1) (q := .i64) (a := a2) (by kernel_rfl) (by kernel_rfl) (by kernel_rfl) (by kernel_rfl) (by kernel_rfl) h3 (by kernel_rfl)) ?_
    refine AtO.seg 2 (by kernel_rfl) ?_
    refine AtO.go (p' := [1, 1, 1, 1, 0, 1, 0, 0, 1, 1, 0, 0, 1, 0, 0]) (F' := [(0, .agg [.lit (.int .i64 x0.Rows), .sl (x0.Classes.map (eSl (eI .i64)))]), (1, .box [.lit (.int .i64 x0.Rows), .sl (x0.Classes.map (eSl (eI .i64)))]), (3, .own (y3_L1.map eB)), (4, .lit (.int .i64 y4_L1)), (6, .sl (a2.map (eI .i64))), (22, .sl (x0.Classes.map (eSl (eI .i64)))), (23, .lit (.int .i64 ((x0.Classes.length : Int)))), (24, .lit (.int .i64 y24_L1))]) 0 (by kernel_rfl) (by kernel_rfl) ?_
    refine Pt.reg (by kernel_rfl) ?_
    refine AtO.seg 1 (by kernel_rfl) ?_
    refine AtO.val (by kernel_rfl) (val_len (x := (.tmp 28)) (t := 38) (et := 3) (d := .sl (a2.map (eI .i64))) (e := (eI .i64)) (l := a2) (by kernel_rfl) (by kernel_rfl) elemsOf_sl (by kernel_rfl)) ?_
    refine AtO.bool (b := (decide ((a2.length : Int) < 2))) (by kernel_rfl) (by kernel_rfl) (fun hc => ?_) (fun hc => ?_)
    · have h := ite_t h (of_decide_eq_true hc)
      refine AtO.seg 7 (by kernel_rfl) ?_
      refine AtO.go (p' := [1, 1, 1, 1, 0, 1, 0, 0, 1, 1, 0, 0, 1, 0, 1, 0, 0]) (F' := []) 1 (by kernel_rfl) (by kernel_rfl) ?_
      refine Pt.reg (by kernel_rfl) ?_
      refine AtO.seg 1 (by kernel_rfl) ?_
      refine AtO.go (p' := [1, 1, 1, 1, 0, 1, 0, 0, 1, 1, 0, 0, 1, 0, 1, 0, 1]) (F' := [(2, .lit (.bool false))]) 0 (by kernel_rfl) (by kernel_rfl) ?_
      exact Pt.ret false (by kernel_rfl) (by kernel_rfl) h
    · have h := ite_f h (of_decide_eq_false hc)
      obtain ⟨a4, h5, h⟩ := h
      refine AtO.seg 2 (by kernel_rfl) ?_
      refine AtO.val (by kernel_rfl) (val_idx_sl (t := 38) (x := (.tmp 32)) (ix := (.const (.int .i64 0))) (et := 3) (k := 1) (e := (eI .i64)) (l := a2) (i := 0) (q := .i64) (a := a4) (by kernel_rfl) (by kernel_rfl) (by kernel_rfl) (by kernel_rfl) (by kernel_rfl) h5 (by kernel_rfl)) ?_
      refine AtO.seg 2 (by kernel_rfl) ?_
      refine AtO.bool (b := (decide (a4 ≤ y4_L1))) (by kernel_rfl) (by kernel_rfl) (fun hc => ?_) (fun hc => ?_)
      · have h := ite_t h (of_decide_eq_true hc)
        refine AtO.seg 1 (by kernel_rfl) ?_
        refine AtO.go (p' := [1, 1, 1, 1, 0, 1, 0, 0, 1, 1, 0, 0, 1, 0, 1, 0, 0]) (F' := []) 1 (by kernel_rfl) (by kernel_rfl) ?_
        refine Pt.reg (by kernel_rfl) ?_
        refine AtO.seg 1 (by kernel_rfl) ?_
        refine AtO.go (p' := [1, 1, 1, 1, 0, 1, 0, 0, 1, 1, 0, 0, 1, 0, 1, 0, 1]) (F' := [(2, .lit (.bool false))]) 0 (by kernel_rfl) (by kernel_rfl) ?_
        exact Pt.ret false (by kernel_rfl) (by kernel_rfl) h
      · have h := ite_f h (of_decide_eq_false hc)
        refine AtO.seg 1 (by kernel_rfl) ?_
        refine AtO.go (p' := [1, 1, 1, 1, 0, 1, 0, 0, 1, 1, 0, 0, 1, 1, 0]) (F' := [(0, .agg [.lit (.int .i64 x0.Rows), .sl (x0.Classes.map (eSl (eI .i64)))]), (1, .box [.lit (.int .i64 x0.Rows), .sl (x0.Classes.map (eSl (eI .i64)))]), (3, .own (y3_L1.map eB)), (6, .sl (a2.map (eI .i64))), (22, .sl (x0.Classes.map (eSl (eI .i64)))), (23, .lit (.int .i64 ((x0.Classes.length : Int)))), (24, .lit (.int .i64 y24_L1))]) 2 (by kernel_rfl) (by kernel_rfl) ?_
        refine Pt.reg (by kernel_rfl) ?_
        refine AtO.seg 1 (by kernel_rfl) ?_
        refine AtO.val (by kernel_rfl) (val_idx_sl (t := 38) (x := (.tmp 38)) (ix := (.const (.int .i64 0))) (et := 3) (k := 1) (e := (eI .i64)) (l := a2) (i := 0) (q := .i64) (a := a4) (by kernel_rfl) (by kernel_rfl) (by kernel_rfl) (by kernel_rfl) (by kernel_rfl) h5 (by kernel_rfl)) ?_
        refine AtO.seg 2 (by kernel_rfl) ?_
        refine AtO.go (p' := [1, 1, 1, 1, 0, 1, 0, 0, 1, 1, 0, 0, 1, 1, 1, 0]) (F' := [(0, .agg [.lit (.int .i64 x0.Rows), .sl (x0.Classes.map (eSl (eI .i64)))]), (1, .box [.lit (.int .i64 x0.Rows), .sl (x0.Classes.map (eSl (eI .i64)))]), (3, .own (y3_L1.map eB)), (4, .lit (.int .i64 a4)), (6, .sl (a2.map (eI .i64))), (22, .sl (x0.Classes.map (eSl (eI .i64)))), (23, .lit (.int .i64 ((x0.Classes.length : Int)))), (24, .lit (.int .i64 y24_L1))]) 0 (by kernel_rfl) (by kernel_rfl) ?_
        refine Pt.reg (by kernel_rfl) ?_
        refine AtO.seg 1 (by kernel_rfl) ?_
        refine AtO.go (p' := [1, 1, 1, 1, 0, 1, 0, 0, 1, 1, 0, 0, 1, 1, 1, 1, 0]) (F' := [(0, .agg [.lit (.int .i64 x0.Rows), .sl (x0.Classes.map (eSl (eI .i64)))]), (1, .box [.lit (.int .i64 x0.Rows), .sl (x0.Classes.map (eSl (eI .i64)))]), (3, .own (y3_L1.map eB)), (4, .lit (.int .i64 a4)), (6, .sl (a2.map (eI .i64))), (7, .lit (.int .i64 ((-1)))), (22, .sl (x0.Classes.map (eSl (eI .i64)))), (23, .lit (.int .i64 ((x0.Classes.length : Int)))), (24, .lit (.int .i64 y24_L1))]) 0 (by kernel_rfl) (by kernel_rfl) ?_
        refine Pt.reg (by kernel_rfl) ?_
        refine AtO.seg 1 (by kernel_rfl) ?_
        refine AtO.val (by kernel_rfl) (val_len (x := (.tmp 41)) (t := 38) (et := 3) (d := .sl (a2.map (eI .i64))) (e := (eI .i64)) (l := a2) (by kernel_rfl) (by kernel_rfl) elemsOf_sl (by kernel_rfl)) ?_
        refine AtO.seg 1 (by kernel_rfl) ?_
        refine AtO.go (p' := [1, 1, 1, 1, 0, 1, 0, 0, 1, 1, 0, 0, 1, 1, 1, 1, 1, 0]) (F' := [(0, .agg [.lit (.int .i64 x0.Rows), .sl (x0.Classes.map (eSl (eI .i64)))]), (1, .box [.lit (.int .i64 x0.Rows), .sl (x0.Classes.map (eSl (eI .i64)))]), (3, .own (y3_L1.map eB)), (4, .lit (.int .i64 a4)), (6, .sl (a2.map (eI .i64))), (7, .lit (.int .i64 ((-1)))), (22, .sl (x0.Classes.map (eSl (eI .i64)))), (23, .lit (.int .i64 ((x0.Classes.length : Int)))), (24, .lit (.int .i64 y24_L1)), (41, .sl (a2.map (eI .i64))), (42, .lit (.int .i64 ((a2.length : Int)))), (43, .lit (.int .i64 0))]) 0 (by kernel_rfl) (by kernel_rfl) ?_
        exact h
  · have h := ite_f h (of_decide_eq_false hc)
    refine AtO.go (p' := [1, 1, 1, 1, 1, 0]) (F' := []) 2 (by kernel_rfl) (by kernel_rfl) ?_
    refine Pt.reg (by kernel_rfl) ?_
    refine AtO.seg 1 (by kernel_rfl) ?_
    refine AtO.go (p' := [1, 1, 1, 1, 1, 1]) (F' := [(2, .lit (.bool true))]) 0 (by kernel_rfl) (by kernel_rfl) ?_
    exact Pt.ret true (by kernel_rfl) (by kernel_rfl) h
theorem L2_step (x0 : api_Partition) (y3_L2 : List Bool) (a4 : Int) (a2 : List Int) (y7_L2 : Int) (y24_L2 : Int) (y43_L2 : Int) (φ : Bool → Prop) (h :
    (if y43_L2 < (a2.length : Int) then
      ∃ a6, lget a2 y43_L2 = some a6 ∧
      (if a6 ≤ y7_L2 then
        φ false
      else
        (if x0.Rows ≤ a6 then
          φ false
        else
          ∃ a8, lget y3_L2 a6 = some a8 ∧
          (if a8 = true then
            φ false
          else
            partition_Valid.L2 x0 ((lset y3_L2 a6 true)) a4 a2 a6 y24_L2 ((IntKind.wrap .i64 (y43_L2 + 1))) φ)))
    else
      partition_Valid.L1 x0 y3_L2 a4 ((IntKind.wrap .i64 (y24_L2 + 1))) φ)) : L2 x0 y3_L2 a4 a2 y7_L2 y24_L2 y43_L2 φ := by
  unfold L2
  refine Pt.loop (p' := [1, 1, 1, 1, 0, 1, 0, 0, 1, 1, 0, 0, 1, 1, 1, 1, 1, 0, 0, 0]) (by kernel_rfl) (by kernel_rfl) ?_
  refine Pt.reg (by kernel_rfl) ?_
  refine AtO.bool (b := (decide (y43_L2 < (a2.length : Int)))) (by kernel_rfl) (by kernel_rfl) (fun hc => ?_) (fun hc => ?_)
  · have h := ite_t h (of_decide_eq_true hc)
    refine AtO.go (p' := [1, 1, 1, 1, 0, 1, 0, 0, 1, 1, 0, 0, 1, 1, 1, 1, 1, 0, 0, 1, 1, 0, 0, 0]) (F' := [(0, .agg [.lit (.int .i64 x0.Rows), .sl (x0.Classes.map (eSl (eI .i64)))]), (1, .box [.lit (.int .i64 x0.Rows), .sl (x0.Classes.map (eSl (eI .i64)))]), (3, .own (y3_L2.map eB)), (4, .lit (.int .i64 a4)), (6, .sl (a2.map (eI .i64))), (7, .lit (.int .i64 y7_L2)), (22, .sl (x0.Classes.map (eSl (eI .i64)))), (23, .lit (.int .i64 ((x0.Classes.length : Int)))), (24, .lit (.int .i64 y24_L2)), (41, .sl (a2.map (eI .i64))), (42, .lit (.int .i64 ((a2.length : Int)))), (43, .lit (.int .i64 y43_L2))]) 2 (by kernel_rfl) (by kernel_rfl) ?_
    refine Pt.reg (by kernel_rfl) ?_
    obtain ⟨a6, h7, h⟩ := h
    refine AtO.val (by kernel_rfl) (val_idx_sl (t := 38) (x := (.tmp 41)) (ix := (.tmp 43)) (et := 3) (k := 1) (e := (eI .i64)) (l := a2) (i := y43_L2) (q := .i64) (a := a6) (by kernel_rfl) (by kernel_rfl) (by kernel_rfl) (by kernel_rfl) (by kernel_rfl) h7 (by kernel_rfl)) ?_
    refine AtO.seg 2 (by kernel_rfl) ?_
    refine AtO.go (p' := [1, 1, 1, 1, 0, 1, 0, 0, 1, 1, 0, 0, 1, 1, 1, 1, 1, 0, 0, 1, 1, 0, 0, 1, 0, 0]) (F' := [(0, .agg [.lit (.int .i64 x0.Rows), .sl (x0.Classes.map (eSl (eI .i64)))]), (1, .box [.lit (.int .i64 x0.Rows), .sl (x0.Classes.map (eSl (eI .i64)))]), (3, .own (y3_L2.map eB)), (4, .lit (.int .i64 a4)), (6, .sl (a2.map (eI .i64))), (7, .lit (.int .i64 y7_L2)), (9, .lit (.int .i64 a6)), (22, .sl (x0.Classes.map (eSl (eI .i64)))), (23, .lit (.int .i64 ((x0.Classes.length : Int)))), (24, .lit (.int .i64 y24_L2)), (41, .sl (a2.map (eI .i64))), (42, .lit (.int .i64 ((a2.length : Int)))), (43, .lit (.int .i64 y43_L2))]) 0 (by kernel_rfl) (by kernel_rfl) ?_
    refine Pt.reg (by kernel_rfl) ?_
    refine AtO.seg 2 (by kernel_rfl) ?_
    refine AtO.bool (b := (decide (a6 ≤ y7_L2))) (by kernel_rfl) (by kernel_rfl) (fun hc => ?_) (fun hc => ?_)
    · have h := ite_t h (of_decide_eq_true hc)
      refine AtO.seg 12 (by kernel_rfl) ?_
      refine AtO.go (p' := [1, 1, 1, 1, 0, 1, 0, 0, 1, 1, 0, 0, 1, 1, 1, 1, 1, 0, 0, 1, 1, 0, 0, 1, 0, 1, 0, 0]) (F' := []) 1 (by kernel_rfl) (by kernel_rfl) ?_
      refine Pt.reg (by kernel_rfl) ?_
      refine AtO.seg 1 (by kernel_rfl) ?_
      refine AtO.go (p' := [1, 1, 1, 1, 0, 1, 0, 0, 1, 1, 0, 0, 1, 1, 1, 1, 1, 0, 0, 1, 1, 0, 0, 1, 0, 1, 0, 1]) (F' := [(2, .lit (.bool false))]) 0 (by kernel_rfl) (by kernel_rfl) ?_
      exact Pt.ret false (by kernel_rfl) (by kernel_rfl) h
    · have h := ite_f h (of_decide_eq_false hc)
      refine AtO.seg 4 (by kernel_rfl) ?_
      refine AtO.bool (b := (decide (x0.Rows ≤ a6))) (by kernel_rfl) (by kernel_rfl) (fun hc => ?_) (fun hc => ?_)
      · have h := ite_t h (of_decide_eq_true hc)
        refine AtO.seg 7 (by kernel_rfl) ?_
        refine AtO.go (p' := [1, 1, 1, 1, 0, 1, 0, 0, 1, 1, 0, 0, 1, 1, 1, 1, 1, 0, 0, 1, 1, 0, 0, 1, 0, 1, 0, 0]) (F' := []) 1 (by kernel_rfl) (by kernel_rfl) ?_
        refine Pt.reg (by kernel_rfl) ?_
        refine AtO.seg 1 (by kernel_rfl) ?_
        refine AtO.go (p' := [1, 1, 1, 1, 0, 1, 0, 0, 1, 1, 0, 0, 1, 1, 1, 1, 1, 0, 0, 1, 1, 0, 0, 1, 0, 1, 0, 1]) (F' := [(2, .lit (.bool false))]) 0 (by kernel_rfl) (by kernel_rfl) ?_
        exact Pt.ret false (by kernel_rfl) (by kernel_rfl) h
      · have h := ite_f h (of_decide_eq_false hc)
        obtain ⟨a8, h9, h⟩ := h
        refine AtO.seg 4 (by kernel_rfl) ?_
        refine AtO.val (by kernel_rfl) (val_idx_ow (s := 3) (ps := []) (t := 70) (x := (.tmp 57)) (ix := (.tmp 58)) (et := 4) (k := 1) (e := eB) (l := y3_L2) (i := a6) (q := .i64) (a := a8) (by kernel_rfl) (by kernel_rfl) (by kernel_rfl) (by kernel_rfl) (by kernel_rfl) (by kernel_rfl) h9 (by kernel_rfl)) ?_
        refine AtO.bool (b := a8) (by kernel_rfl) (val_load_ow (t := 4) (x := (.tmp 59)) (s := 3) (ps := []) (n := (a6.toNat)) (c := 0) (e := eB) (l := y3_L2) (a := a8) (d := .lit (.bool a8)) (by kernel_rfl) (by kernel_rfl) (by kernel_rfl) (by kernel_rfl) (lget_some h9).2 (by kernel_rfl)) (fun hc => ?_) (fun hc => ?_)
        · have h := ite_t h (id hc)
          refine AtO.seg 1 (by kernel_rfl) ?_
          refine AtO.go (p' := [1, 1, 1, 1, 0, 1, 0, 0, 1, 1, 0, 0, 1, 1, 1, 1, 1, 0, 0, 1, 1, 0, 0, 1, 0, 1, 0, 0]) (F' := []) 1 (by kernel_rfl) (by kernel_rfl) ?_
          refine Pt.reg (by kernel_rfl) ?_
          refine AtO.seg 1 (by kernel_rfl) ?_
          refine AtO.go (p' := [1, 1, 1, 1, 0, 1, 0, 0, 1, 1, 0, 0, 1, 1, 1, 1, 1, 0, 0, 1, 1, 0, 0, 1, 0, 1, 0, 1]) (F' := [(2, .lit (.bool false))]) 0 (by kernel_rfl) (by kernel_rfl) ?_
          exact Pt.ret false (by kernel_rfl) (by kernel_rfl) h
        · have h := ite_f h (fls hc)
          refine AtO.seg 1 (by kernel_rfl) ?_
          refine AtO.go (p' := [1, 1, 1, 1, 0, 1, 0, 0, 1, 1, 0, 0, 1, 1, 1, 1, 1, 0, 0, 1, 1, 0, 0, 1, 1, 0]) (F' := [(0, .agg [.lit (.int .i64 x0.Rows), .sl (x0.Classes.map (eSl (eI .i64)))]), (1, .box [.lit (.int .i64 x0.Rows), .sl (x0.Classes.map (eSl (eI .i64)))]), (3, .own (y3_L2.map eB)), (4, .lit (.int .i64 a4)), (6, .sl (a2.map (eI .i64))), (9, .lit (.int .i64 a6)), (22, .sl (x0.Classes.map (eSl (eI .i64)))), (23, .lit (.int .i64 ((x0.Classes.length : Int)))), (24, .lit (.int .i64 y24_L2)), (41, .sl (a2.map (eI .i64))), (42, .lit (.int .i64 ((a2.length : Int)))), (43, .lit (.int .i64 y43_L2))]) 2 (by kernel_rfl) (by kernel_rfl) ?_
          refine Pt.reg (by kernel_rfl) ?_
          refine AtO.seg 2 (by kernel_rfl) ?_
          refine AtO.val (by kernel_rfl) (val_idx_ow (s := 3) (ps := []) (t := 70) (x := (.tmp 62)) (ix := (.tmp 63)) (et := 4) (k := 1) (e := eB) (l := y3_L2) (i := a6) (q := .i64) (a := a8) (by kernel_rfl) (by kernel_rfl) (by kernel_rfl) (by kernel_rfl) (by kernel_rfl) (by kernel_rfl) h9 (by kernel_rfl)) ?_
          refine AtO.op (by kernel_rfl) (store1 (t := 4) (x := (.tmp 64)) (y := (.const (.bool true))) (s := 3) (ps := []) (n := (a6.toNat)) (c := 0) (e := eB) (l := y3_L2) (a := a8) (b := true) (k := 1) (d := .lit (.bool true)) (by kernel_rfl) (by kernel_rfl) (by kernel_rfl) (by kernel_rfl) (lget_some h9).2 (by kernel_rfl) (by kernel_rfl) (by kernel_rfl) (by kernel_rfl) (by kernel_rfl) (setG_eq (by kernel_rfl))) ?_
          refine AtO.go (p' := [1, 1, 1, 1, 0, 1, 0, 0, 1, 1, 0, 0, 1, 1, 1, 1, 1, 0, 0, 1, 1, 0, 0, 1, 1, 1]) (F' := [(0, .agg [.lit (.int .i64 x0.Rows), .sl (x0.Classes.map (eSl (eI .i64)))]), (1, .box [.lit (.int .i64 x0.Rows), .sl (x0.Classes.map (eSl (eI .i64)))]), (3, .own (((lset y3_L2 a6 true)).map eB)), (4, .lit (.int .i64 a4)), (6, .sl (a2.map (eI .i64))), (9, .lit (.int .i64 a6)), (22, .sl (x0.Classes.map (eSl (eI .i64)))), (23, .lit (.int .i64 ((x0.Classes.length : Int)))), (24, .lit (.int .i64 y24_L2)), (41, .sl (a2.map (eI .i64))), (42, .lit (.int .i64 ((a2.length : Int)))), (43, .lit (.int .i64 y43_L2))]) 0 (by kernel_rfl) (by kernel_rfl) ?_
          refine Pt.reg (by kernel_rfl) ?_
          refine AtO.seg 2 (by kernel_rfl) ?_
          refine AtO.go (p' := [1, 1, 1, 1, 0, 1, 0, 0, 1, 1, 0, 0, 1, 1, 1, 1, 1, 0, 0, 1, 1, 1]) (F' := [(0, .agg [.lit (.int .i64 x0.Rows), .sl (x0.Classes.map (eSl (eI .i64)))]), (1, .box [.lit (.int .i64 x0.Rows), .sl (x0.Classes.map (eSl (eI .i64)))]), (3, .own (((lset y3_L2 a6 true)).map eB)), (4, .lit (.int .i64 a4)), (6, .sl (a2.map (eI .i64))), (7, .lit (.int .i64 a6)), (22, .sl (x0.Classes.map (eSl (eI .i64)))), (23, .lit (.int .i64 ((x0.Classes.length : Int)))), (24, .lit (.int .i64 y24_L2)), (41, .sl (a2.map (eI .i64))), (42, .lit (.int .i64 ((a2.length : Int)))), (43, .lit (.int .i64 y43_L2))]) 0 (by kernel_rfl) (by kernel_rfl) ?_
          refine Pt.reg (by kernel_rfl) ?_
          refine AtO.seg 2 (by kernel_rfl) ?_
          refine AtO.go (p' := [1, 1, 1, 1, 0, 1, 0, 0, 1, 1, 0, 0, 1, 1, 1, 1, 1, 0]) (F' := [(0, .agg [.lit (.int .i64 x0.Rows), .sl (x0.Classes.map (eSl (eI .i64)))]), (1, .box [.lit (.int .i64 x0.Rows), .sl (x0.Classes.map (eSl (eI .i64)))]), (3, .own (((lset y3_L2 a6 true)).map eB)), (4, .lit (.int .i64 a4)), (6, .sl (a2.map (eI .i64))), (7, .lit (.int .i64 a6)), (22, .sl (x0.Classes.map (eSl (eI .i64)))), (23, .lit (.int .i64 ((x0.Classes.length : Int)))), (24, .lit (.int .i64 y24_L2)), (41, .sl (a2.map (eI .i64))), (42, .lit (.int .i64 ((a2.length : Int)))), (43, .lit (.int .i64 ((IntKind.wrap .i64 (y43_L2 + 1)))))]) 0 (by kernel_rfl) (by kernel_rfl) ?_
          exact h
  · have h := ite_f h (of_decide_eq_false hc)
    refine AtO.go (p' := [1, 1, 1, 1, 0, 1, 0, 0, 1, 1, 1]) (F' := [(0, .agg [.lit (.int .i64 x0.Rows), .sl (x0.Classes.map (eSl (eI .i64)))]), (1, .box [.lit (.int .i64 x0.Rows), .sl (x0.Classes.map (eSl (eI .i64)))]), (3, .own (y3_L2.map eB)), (4, .lit (.int .i64 a4)), (22, .sl (x0.Classes.map (eSl (eI .i64)))), (23, .lit (.int .i64 ((x0.Classes.length : Int)))), (24, .lit (.int .i64 y24_L2))]) 2 (by kernel_rfl) (by kernel_rfl) ?_
    refine Pt.reg (by kernel_rfl) ?_
    refine AtO.seg 2 (by kernel_rfl) ?_
    refine AtO.go (p' := [1, 1, 1, 1, 0, 1, 0]) (F' := [(0, .agg [.lit (.int .i64 x0.Rows), .sl (x0.Classes.map (eSl (eI .i64)))]), (1, .box [.lit (.int .i64 x0.Rows), .sl (x0.Classes.map (eSl (eI .i64)))]), (3, .own (y3_L2.map eB)), (4, .lit (.int .i64 a4)), (22, .sl (x0.Classes.map (eSl (eI .i64)))), (23, .lit (.int .i64 ((x0.Classes.length : Int)))), (24, .lit (.int .i64 ((IntKind.wrap .i64 (y24_L2 + 1)))))]) 0 (by kernel_rfl) (by kernel_rfl) ?_
    exact h
theorem enter (x0 : api_Partition) (φ : Bool → Prop) (h :
    (if x0.Rows < 0 then
      φ false
    else
      (if 1000 < x0.Rows then
        φ false
      else
        (0 ≤ x0.Rows ∧ x0.Rows * 1 ≤ 281474976710656) ∧
        partition_Valid.L1 x0 ((List.replicate x0.Rows.toNat false)) ((-1)) 0 φ))) : ∃ r, φ r ∧ C x0 r := by
  refine Ret.of_at (E := env) (f := 15) (fd := Tryd.f15) (body := B) (p := [0]) (V := W) (F := [(0, .agg [.lit (.int .i64 x0.Rows), .sl (x0.Classes.map (eSl (eI .i64)))]), (1, .undef), (2, .undef), (3, .undef), (4, .undef), (6, .undef), (7, .undef), (9, .undef), (17, .undef), (22, .undef), (23, .undef), (24, .undef), (25, .undef), (37, .undef), (41, .undef), (42, .undef), (43, .undef), (44, .undef), (61, .undef)]) (res := res) (φ := φ) (ds := [.agg [.lit (.int .i64 x0.Rows), .sl (x0.Classes.map (eSl (eI .i64)))]]) (by kernel_rfl) (by kernel_rfl) (by kernel_rfl) ⟨Nat.le_of_ble_eq_true (by kernel_rfl), Nat.le_of_ble_eq_true (by kernel_rfl)⟩ (by kernel_rfl) (by kernel_rfl) (by kernel_rfl) ?_
  refine Pt.reg (by kernel_rfl) ?_
  refine AtO.seg 2 (by kernel_rfl) ?_
  refine AtO.go (p' := [1, 0, 0]) (F' := [(0, .agg [.lit (.int .i64 x0.Rows), .sl (x0.Classes.map (eSl (eI .i64)))]), (1, .box [.lit (.int .i64 x0.Rows), .sl (x0.Classes.map (eSl (eI .i64)))])]) 0 (by kernel_rfl) (by kernel_rfl) ?_
  refine Pt.reg (by kernel_rfl) ?_
  refine AtO.seg 2 (by kernel_rfl) ?_
  refine AtO.bool (b := (decide (x0.Rows < 0))) (by kernel_rfl) (by kernel_rfl) (fun hc => ?_) (fun hc => ?_)
  · have h := ite_t h (of_decide_eq_true hc)
    refine AtO.seg 5 (by kernel_rfl) ?_
    refine AtO.go (p' := [1, 0, 1, 0, 0]) (F' := []) 1 (by kernel_rfl) (by kernel_rfl) ?_
    refine Pt.reg (by kernel_rfl) ?_
    refine AtO.seg 1 (by kernel_rfl) ?_
    refine AtO.go (p' := [1, 0, 1, 0, 1]) (F' := [(2, .lit (.bool false))]) 0 (by kernel_rfl) (by kernel_rfl) ?_
    exact Pt.ret false (by kernel_rfl) (by kernel_rfl) h
  · have h := ite_f h (of_decide_eq_false hc)
    refine AtO.seg 3 (by kernel_rfl) ?_
    refine AtO.bool (b := (decide (1000 < x0.Rows))) (by kernel_rfl) (by kernel_rfl) (fun hc => ?_) (fun hc => ?_)
    · have h := ite_t h (of_decide_eq_true hc)
      refine AtO.seg 1 (by kernel_rfl) ?_
      refine AtO.go (p' := [1, 0, 1, 0, 0]) (F' := []) 1 (by kernel_rfl) (by kernel_rfl) ?_
      refine Pt.reg (by kernel_rfl) ?_
      refine AtO.seg 1 (by kernel_rfl) ?_
      refine AtO.go (p' := [1, 0, 1, 0, 1]) (F' := [(2, .lit (.bool false))]) 0 (by kernel_rfl) (by kernel_rfl) ?_
      exact Pt.ret false (by kernel_rfl) (by kernel_rfl) h
    · have h := ite_f h (of_decide_eq_false hc)
      refine AtO.seg 1 (by kernel_rfl) ?_
      refine AtO.go (p' := [1, 1, 0]) (F' := [(0, .agg [.lit (.int .i64 x0.Rows), .sl (x0.Classes.map (eSl (eI .i64)))]), (1, .box [.lit (.int .i64 x0.Rows), .sl (x0.Classes.map (eSl (eI .i64)))])]) 2 (by kernel_rfl) (by kernel_rfl) ?_
      refine Pt.reg (by kernel_rfl) ?_
      obtain ⟨h1, h⟩ := h
      refine AtO.seg 2 (by kernel_rfl) ?_
      refine AtO.val (by kernel_rfl) (val_make (t := 70) (x := (.tmp 19)) (y := (.tmp 19)) (q := .i64) (i := x0.Rows) (et := 4) (z := .lit (.bool false)) (e := eB) (a := false) (k := 1) (by kernel_rfl) (by kernel_rfl) (by kernel_rfl) (by kernel_rfl) (by kernel_rfl) (by kernel_rfl) (by kernel_rfl) (by kernel_rfl) (by kernel_rfl) (by kernel_rfl) h1.1 h1.2) ?_
      refine AtO.seg 1 (by kernel_rfl) ?_
      refine AtO.go (p' := [1, 1, 1, 0]) (F' := [(0, .agg [.lit (.int .i64 x0.Rows), .sl (x0.Classes.map (eSl (eI .i64)))]), (1, .box [.lit (.int .i64 x0.Rows), .sl (x0.Classes.map (eSl (eI .i64)))]), (3, .own (((List.replicate x0.Rows.toNat false)).map eB))]) 0 (by kernel_rfl) (by kernel_rfl) ?_
      refine Pt.reg (by kernel_rfl) ?_
      refine AtO.seg 1 (by kernel_rfl) ?_
      refine AtO.go (p' := [1, 1, 1, 1, 0, 0]) (F' := [(0, .agg [.lit (.int .i64 x0.Rows), .sl (x0.Classes.map (eSl (eI .i64)))]), (1, .box [.lit (.int .i64 x0.Rows), .sl (x0.Classes.map (eSl (eI .i64)))]), (3, .own (((List.replicate x0.Rows.toNat false)).map eB)), (4, .lit (.int .i64 ((-1))))]) 0 (by kernel_rfl) (by kernel_rfl) ?_
      refine Pt.reg (by kernel_rfl) ?_
      refine AtO.seg 2 (by kernel_rfl) ?_
      refine AtO.val (by kernel_rfl) (val_len (x := (.tmp 22)) (t := 29) (et := 38) (d := .sl (x0.Classes.map (eSl (eI .i64)))) (e := (eSl (eI .i64))) (l := x0.Classes) (by kernel_rfl) (by kernel_rfl) elemsOf_sl (by kernel_rfl)) ?_
      refine AtO.seg 1 (by kernel_rfl) ?_
      refine AtO.go (p' := [1, 1, 1, 1, 0, 1, 0]) (F' := [(0, .agg [.lit (.int .i64 x0.Rows), .sl (x0.Classes.map (eSl (eI .i64)))]), (1, .box [.lit (.int .i64 x0.Rows), .sl (x0.Classes.map (eSl (eI .i64)))]), (3, .own (((List.replicate x0.Rows.toNat false)).map eB)), (4, .lit (.int .i64 ((-1)))), (22, .sl (x0.Classes.map (eSl (eI .i64)))), (23, .lit (.int .i64 ((x0.Classes.length : Int)))), (24, .lit (.int .i64 0))]) 0 (by kernel_rfl) (by kernel_rfl) ?_
      exact h
end partition_Valid
end Go.Own

namespace Go.Own
open Go.Proofs D
set_option maxRecDepth 100000
set_option maxHeartbeats 4000000
namespace drossref08_Valid
noncomputable def B : Code := (Tryd.f16.body).getD .skip
def W : List Nat := [0, 1, 2, 3, 4, 5, 6, 7, 15, 23, 40, 47, 88]
def res (r : Bool) : D × List D := (.lit (.bool r), [])
def C (x0 : api_Partition) (r : Bool) : Prop := Ret env 16 [.agg [.lit (.int .i64 x0.Rows), .sl (x0.Classes.map (eSl (eI .i64)))]] (res r).1 (res r).2
def L1 (x0 : api_Partition) (y3_L1 : List Bool) (y4_L1 : Int) (y5_L1 : Int) (φ : Bool → Prop) : Prop := Pt env 16 W B [1, 1, 1, 1, 0, 1, 0] [(0, .agg [.lit (.int .i64 x0.Rows), .sl (x0.Classes.map (eSl (eI .i64)))]), (1, .box [.lit (.int .i64 x0.Rows), .sl (x0.Classes.map (eSl (eI .i64)))]), (3, .own (y3_L1.map eB)), (4, .lit (.int .i64 y4_L1)), (5, .lit (.int .i64 y5_L1))] (Lv env 16 Tryd.f16 1 res φ)
def L2 (x0 : api_Partition) (y3_L2 : List Bool) (a4 : Int) (y5_L2 : Int) (a2 : List Int) (y7_L2 : Int) (φ : Bool → Prop) : Prop := Pt env 16 W B [1, 1, 1, 1, 0, 1, 0, 0, 1, 0, 0, 1, 1, 1, 1, 0] [(0, .agg [.lit (.int .i64 x0.Rows), .sl (x0.Classes.map (eSl (eI .i64)))]), (1, .box [.lit (.int .i64 x0.Rows), .sl (x0.Classes.map (eSl (eI .i64)))]), (3, .own (y3_L2.map eB)), (4, .lit (.int .i64 a4)), (5, .lit (.int .i64 y5_L2)), (6, .sl (a2.map (eI .i64))), (7, .lit (.int .i64 y7_L2))] (Lv env 16 Tryd.f16 1 res φ)
def L3 (x0 : api_Partition) (y3_L2 : List Bool) (a4 : Int) (y5_L3 : Int) (a2 : List Int) (y7_L2 : Int) (φ : Bool → Prop) : Prop := Pt env 16 W B [1, 1, 1, 1, 0, 1, 0, 0, 1, 0, 0, 1, 1, 1, 1, 0, 0, 1, 0, 0, 1] [(0, .agg [.lit (.int .i64 x0.Rows), .sl (x0.Classes.map (eSl (eI .i64)))]), (1, .box [.lit (.int .i64 x0.Rows), .sl (x0.Classes.map (eSl (eI .i64)))]), (3, .own (y3_L2.map eB)), (4, .lit (.int .i64 a4)), (5, .lit (.int .i64 y5_L3)), (6, .sl (a2.map (eI .i64))), (7, .lit (.int .i64 y7_L2))] (Lv env 16 Tryd.f16 1 res φ)
theorem L1_step (x0 : api_Partition) (y3_L1 : List Bool) (y4_L1 : Int) (y5_L1 : Int) (φ : Bool → Prop) (h :
    (if y5_L1 < (x0.Classes.length : Int) then
      ∃ a2, lget x0.Classes y5_L1 = some a2 ∧
      (if (a2.length : Int) < 2 then
        φ false
      else
        ∃ a4, lget a2 0 = some a4 ∧
        (if a4 ≤ y4_L1 then
          φ false
        else
          drossref08_Valid.L2 x0 y3_L1 a4 y5_L1 a2 0 φ))
    else
      φ true)) : L1 x0 y3_L1 y4_L1 y5_L1 φ := by
  unfold L1
  refine Pt.loop (p' := [1, 1, 1, 1, 0, 1, 0, 0, 0, 0]) (by kernel_rfl) (by kernel_rfl) ?_
  refine Pt.reg (by kernel_rfl) ?_
  refine AtO.seg 3 (by kernel_rfl) ?_
  refine AtO.val (by kernel_rfl) (val_len (x := (.tmp 21)) (t := 29) (et := 38) (d := .sl (x0.Classes.map (eSl (eI .i64)))) (e := (eSl (eI .i64))) (l := x0.Classes) (by kernel_rfl) (by kernel_rfl) elemsOf_sl (by kernel_rfl)) ?_
  refine AtO.bool (b := (decide (y5_L1 < (x0.Classes.length : Int)))) (by kernel_rfl) (by kernel_rfl) (fun hc => ?_) (fun hc => ?_)
  · have h := ite_t h (of_decide_eq_true hc)
    refine AtO.go (p' := [1, 1, 1, 1, 0, 1, 0, 0, 1, 0, 0, 0]) (F' := [(0, .agg [.lit (.int .i64 x0.Rows), .sl (x0.Classes.map (eSl (eI .i64)))]), (1, .box [.lit (.int .i64 x0.Rows), .sl (x0.Classes.map (eSl (eI .i64)))]), (3, .own (y3_L1.map eB)), (4, .lit (.int .i64 y4_L1)), (5, .lit (.int .i64 y5_L1))]) 2 (by kernel_rfl) (by kernel_rfl) ?_
    refine Pt.reg (by kernel_rfl) ?_
    obtain ⟨a2, h3, h⟩ := h
    refine AtO.seg 3 (by kernel_rfl) ?_
    refine AtO.val (by kernel_rfl) (val_idx_sl (t := 29) (x := (.tmp 27)) (ix := (.tmp 28)) (et := 38) (k := 1) (e := (eSl (eI .i64))) (l := x0.Classes) (i := y5_L1) (q := .i64) (a := a2) (by kernel_rfl) (by kernel_rfl) (by kernel_rfl) (by kernel_rfl) (by kernel_rfl) h3 (by kernel_rfl)) ?_
    refine AtO.seg 2 (by kernel_rfl) ?_
    refine AtO.go (p' := [1, 1, 1, 1, 0, 1, 0, 0, 1, 0, 0, 1, 0, 0]) (F' := [(0, .agg [.lit (.int .i64 x0.Rows), .sl (x0.Classes.map (eSl (eI .i64)))]), (1, .box [.lit (.int .i64 x0.Rows), .sl (x0.Classes.map (eSl (eI .i64)))]), (3, .own (y3_L1.map eB)), (4, .lit (.int .i64 y4_L1)), (5, .lit (.int .i64 y5_L1)), (6, .sl (a2.map (eI .i64)))]) 0 (by kernel_rfl) (by kernel_rfl) ?_
    refine Pt.reg (by kernel_rfl) ?_
    refine AtO.seg 1 (by kernel_rfl) ?_
    refine AtO.val (by kernel_rfl) (val_len (x := (.tmp 31)) (t := 38) (et := 3) (d := .sl (a2.map (eI .i64))) (e := (eI .i64)) (l := a2) (by kernel_rfl) (by kernel_rfl) elemsOf_sl (by kernel_rfl)) ?_
    refine AtO.bool (b := (decide ((a2.length : Int) < 2))) (by kernel_rfl) (by kernel_rfl) (fun hc => ?_) (fun hc => ?_)
    · have h := ite_t h (of_decide_eq_true hc)
      refine AtO.seg 7 (by kernel_rfl) ?_
      refine AtO.go (p' := [1, 1, 1, 1, 0, 1, 0, 0, 1, 0, 0, 1, 0, 1, 0, 0]) (F' := []) 1 (by kernel_rfl) (by kernel_rfl) ?_
      refine Pt.reg (by kernel_rfl) ?_
      refine AtO.seg 1 (by kernel_rfl) ?_
      refine AtO.go (p' := [1, 1, 1, 1, 0, 1, 0, 0, 1, 0, 0, 1, 0, 1, 0, 1]) (F' := [(2, .lit (.bool false))]) 0 (by kernel_rfl) (by kernel_rfl) ?_
      exact Pt.ret false (by kernel_rfl) (by kernel_rfl) h
    · have h := ite_f h (of_decide_eq_false hc)
      obtain ⟨a4, h5, h⟩ := h
      refine AtO.seg 2 (by kernel_rfl) ?_
      refine AtO.val (by kernel_rfl) (val_idx_sl (t := 38) (x := (.tmp 35)) (ix := (.const (.int .i64 0))) (et := 3) (k := 1) (e := (eI .i64)) (l := a2) (i := 0) (q := .i64) (a := a4) (by kernel_rfl) (by kernel_rfl) (by kernel_rfl) (by kernel_rfl) (by kernel_rfl) h5 (by kernel_rfl)) ?_
      refine AtO.seg 2 (by kernel_rfl) ?_
      refine AtO.bool (b := (decide (a4 ≤ y4_L1))) (by kernel_rfl) (by kernel_rfl) (fun hc => ?_) (fun hc => ?_)
      · have h := ite_t h (of_decide_eq_true hc)
        refine AtO.seg 1 (by kernel_rfl) ?_
        refine AtO.go (p' := [1, 1, 1, 1, 0, 1, 0, 0, 1, 0, 0, 1, 0, 1, 0, 0]) (F' := []) 1 (by kernel_rfl) (by kernel_rfl) ?_
        refine Pt.reg (by kernel_rfl) ?_
        refine AtO.seg 1 (by kernel_rfl) ?_
        refine AtO.go (p' := [1, 1, 1, 1, 0, 1, 0, 0, 1, 0, 0, 1, 0, 1, 0, 1]) (F' := [(2, .lit (.bool false))]) 0 (by kernel_rfl) (by kernel_rfl) ?_
        exact Pt.ret false (by kernel_rfl) (by kernel_rfl) h
      · have h := ite_f h (of_decide_eq_false hc)
        refine AtO.seg 1 (by kernel_rfl) ?_
        refine AtO.go (p' := [1, 1, 1, 1, 0, 1, 0, 0, 1, 0, 0, 1, 1, 0]) (F' := [(0, .agg [.lit (.int .i64 x0.Rows), .sl (x0.Classes.map (eSl (eI .i64)))]), (1, .box [.lit (.int .i64 x0.Rows), .sl (x0.Classes.map (eSl (eI .i64)))]), (3, .own (y3_L1.map eB)), (5, .lit (.int .i64 y5_L1)), (6, .sl (a2.map (eI .i64)))]) 2 (by kernel_rfl) (by kernel_rfl) ?_
        refine Pt.reg (by kernel_rfl) ?_
        refine AtO.seg 1 (by kernel_rfl) ?_
        refine AtO.val (by kernel_rfl) (val_idx_sl (t := 38) (x := (.tmp 41)) (ix := (.const (.int .i64 0))) (et := 3) (k := 1) (e := (eI .i64)) (l := a2) (i := 0) (q := .i64) (a := a4) (by kernel_rfl) (by kernel_rfl) (by kernel_rfl) (by kernel_rfl) (by kernel_rfl) h5 (by kernel_rfl)) ?_
        refine AtO.seg 2 (by kernel_rfl) ?_
        refine AtO.go (p' := [1, 1, 1, 1, 0, 1, 0, 0, 1, 0, 0, 1, 1, 1, 0]) (F' := [(0, .agg [.lit (.int .i64 x0.Rows), .sl (x0.Classes.map (eSl (eI .i64)))]), (1, .box [.lit (.int .i64 x0.Rows), .sl (x0.Classes.map (eSl (eI .i64)))]), (3, .own (y3_L1.map eB)), (4, .lit (.int .i64 a4)), (5, .lit (.int .i64 y5_L1)), (6, .sl (a2.map (eI .i64)))]) 0 (by kernel_rfl) (by kernel_rfl) ?_
        refine Pt.reg (by kernel_rfl) ?_
        refine AtO.seg 1 (by kernel_rfl) ?_
        refine AtO.go (p' := [1, 1, 1, 1, 0, 1, 0, 0, 1, 0, 0, 1, 1, 1, 1, 0]) (F' := [(0, .agg [.lit (.int .i64 x0.Rows), .sl (x0.Classes.map (eSl (eI .i64)))]), (1, .box [.lit (.int .i64 x0.Rows), .sl (x0.Classes.map (eSl (eI .i64)))]), (3, .own (y3_L1.map eB)), (4, .lit (.int .i64 a4)), (5, .lit (.int .i64 y5_L1)), (6, .sl (a2.map (eI .i64))), (7, .lit (.int .i64 0))]) 0 (by kernel_rfl) (by kernel_rfl) ?_
        exact h
  · have h := ite_f h (of_decide_eq_false hc)
    refine AtO.go (p' := [1, 1, 1, 1, 1, 0]) (F' := []) 2 (by kernel_rfl) (by kernel_rfl) ?_
    refine Pt.reg (by kernel_rfl) ?_
    refine AtO.seg 1 (by kernel_rfl) ?_
    refine AtO.go (p' := [1, 1, 1, 1, 1, 1]) (F' := [(2, .lit (.bool true))]) 0 (by kernel_rfl) (by kernel_rfl) ?_
    exact Pt.ret true (by kernel_rfl) (by kernel_rfl) h
theorem L2_step (x0 : api_Partition) (y3_L2 : List Bool) (a4 : Int) (y5_L2 : Int) (a2 : List Int) (y7_L2 : Int) (φ : Bool → Prop) (h :
    (if y7_L2 < (a2.length : Int) then
      ∃ a6, lget a2 y7_L2 = some a6 ∧
      (if a6 < 0 then
        φ false
      else
        (if x0.Rows ≤ a6 then
          φ false
        else
          ∃ a8, lget y3_L2 a6 = some a8 ∧
          (if a8 = true then
            φ false
          else
            (if 0 < y7_L2 then
              ∃ a10, lget a2 ((IntKind.wrap .i64 (y7_L2 - 1))) = some a10 ∧
              (if a6 ≤ a10 then
                φ false
              else
                drossref08_Valid.L3 x0 y3_L2 a4 y5_L2 a2 y7_L2 φ)
            else
              drossref08_Valid.L3 x0 y3_L2 a4 y5_L2 a2 y7_L2 φ))))
    else
      drossref08_Valid.L1 x0 y3_L2 a4 ((IntKind.wrap .i64 (y5_L2 + 1))) φ)) : L2 x0 y3_L2 a4 y5_L2 a2 y7_L2 φ := by
  unfold L2
  refine Pt.loop (p' := [1, 1, 1, 1, 0, 1, 0, 0, 1, 0, 0, 1, 1, 1, 1, 0, 0, 0, 0]) (by kernel_rfl) (by kernel_rfl) ?_
  refine Pt.reg (by kernel_rfl) ?_
  refine AtO.seg 2 (by kernel_rfl) ?_
  refine AtO.val (by kernel_rfl) (val_len (x := (.tmp 45)) (t := 38) (et := 3) (d := .sl (a2.map (eI .i64))) (e := (eI .i64)) (l := a2) (by kernel_rfl) (by kernel_rfl) elemsOf_sl (by kernel_rfl)) ?_
  refine AtO.bool (b := (decide (y7_L2 < (a2.length : Int)))) (by kernel_rfl) (by kernel_rfl) (fun hc => ?_) (fun hc => ?_)
  · have h := ite_t h (of_decide_eq_true hc)
    refine AtO.go (p' := [1, 1, 1, 1, 0, 1, 0, 0, 1, 0, 0, 1, 1, 1, 1, 0, 0, 1, 0, 0, 0, 0]) (F' := [(0, .agg [.lit (.int .i64 x0.Rows), .sl (x0.Classes.map (eSl (eI .i64)))]), (1, .box [.lit (.int .i64 x0.Rows), .sl (x0.Classes.map (eSl (eI .i64)))]), (3, .own (y3_L2.map eB)), (4, .lit (.int .i64 a4)), (5, .lit (.int .i64 y5_L2)), (6, .sl (a2.map (eI .i64))), (7, .lit (.int .i64 y7_L2))]) 2 (by kernel_rfl) (by kernel_rfl) ?_
    refine Pt.reg (by kernel_rfl) ?_
    obtain ⟨a6, h7, h⟩ := h
    refine AtO.seg 2 (by kernel_rfl) ?_
    refine AtO.val (by kernel_rfl) (val_idx_sl (t := 38) (x := (.tmp 50)) (ix := (.tmp 51)) (et := 3) (k := 1) (e := (eI .i64)) (l := a2) (i := y7_L2) (q := .i64) (a := a6) (by kernel_rfl) (by kernel_rfl) (by kernel_rfl) (by kernel_rfl) (by kernel_rfl) h7 (by kernel_rfl)) ?_
    refine AtO.seg 1 (by kernel_rfl) ?_
    refine AtO.bool (b := (decide (a6 < 0))) (by kernel_rfl) (by kernel_rfl) (fun hc => ?_) (fun hc => ?_)
    · have h := ite_t h (of_decide_eq_true hc)
      refine AtO.seg 34 (by kernel_rfl) ?_
      refine AtO.go (p' := [1, 1, 1, 1, 0, 1, 0, 0, 1, 0, 0, 1, 1, 1, 1, 0, 0, 1, 0, 0, 0, 1, 0, 0]) (F' := []) 1 (by kernel_rfl) (by kernel_rfl) ?_
      refine Pt.reg (by kernel_rfl) ?_
      refine AtO.seg 1 (by kernel_rfl) ?_
      refine AtO.go (p' := [1, 1, 1, 1, 0, 1, 0, 0, 1, 0, 0, 1, 1, 1, 1, 0, 0, 1, 0, 0, 0, 1, 0, 1]) (F' := [(2, .lit (.bool false))]) 0 (by kernel_rfl) (by kernel_rfl) ?_
      exact Pt.ret false (by kernel_rfl) (by kernel_rfl) h
    · have h := ite_f h (of_decide_eq_false hc)
      refine AtO.seg 3 (by kernel_rfl) ?_
      refine AtO.val (by kernel_rfl) (val_idx_sl (t := 38) (x := (.tmp 56)) (ix := (.tmp 57)) (et := 3) (k := 1) (e := (eI .i64)) (l := a2) (i := y7_L2) (q := .i64) (a := a6) (by kernel_rfl) (by kernel_rfl) (by kernel_rfl) (by kernel_rfl) (by kernel_rfl) h7 (by kernel_rfl)) ?_
      refine AtO.seg 3 (by kernel_rfl) ?_
      refine AtO.bool (b := (decide (x0.Rows ≤ a6))) (by kernel_rfl) (by kernel_rfl) (fun hc => ?_) (fun hc => ?_)
      · have h := ite_t h (of_decide_eq_true hc)
        refine AtO.seg 26 (by kernel_rfl) ?_
        refine AtO.go (p' := [1, 1, 1, 1, 0, 1, 0, 0, 1, 0, 0, 1, 1, 1, 1, 0, 0, 1, 0, 0, 0, 1, 0, 0]) (F' := []) 1 (by kernel_rfl) (by kernel_rfl) ?_
        refine Pt.reg (by kernel_rfl) ?_
        refine AtO.seg 1 (by kernel_rfl) ?_
        refine AtO.go (p' := [1, 1, 1, 1, 0, 1, 0, 0, 1, 0, 0, 1, 1, 1, 1, 0, 0, 1, 0, 0, 0, 1, 0, 1]) (F' := [(2, .lit (.bool false))]) 0 (by kernel_rfl) (by kernel_rfl) ?_
        exact Pt.ret false (by kernel_rfl) (by kernel_rfl) h
      · have h := ite_f h (of_decide_eq_false hc)
        refine AtO.seg 5 (by kernel_rfl) ?_
        refine AtO.val (by kernel_rfl) (val_idx_sl (t := 38) (x := (.tmp 66)) (ix := (.tmp 67)) (et := 3) (k := 1) (e := (eI .i64)) (l := a2) (i := y7_L2) (q := .i64) (a := a6) (by kernel_rfl) (by kernel_rfl) (by kernel_rfl) (by kernel_rfl) (by kernel_rfl) h7 (by kernel_rfl)) ?_
        obtain ⟨a8, h9, h⟩ := h
        refine AtO.seg 1 (by kernel_rfl) ?_
        refine AtO.val (by kernel_rfl) (val_idx_ow (s := 3) (ps := []) (t := 70) (x := (.tmp 65)) (ix := (.tmp 69)) (et := 4) (k := 1) (e := eB) (l := y3_L2) (i := a6) (q := .i64) (a := a8) (by kernel_rfl) (by kernel_rfl) (by kernel_rfl) (by kernel_rfl) (by kernel_rfl) (by kernel_rfl) h9 (by kernel_rfl)) ?_
        refine AtO.bool (b := a8) (by kernel_rfl) (val_load_ow (t := 4) (x := (.tmp 70)) (s := 3) (ps := []) (n := (a6.toNat)) (c := 0) (e := eB) (l := y3_L2) (a := a8) (d := .lit (.bool a8)) (by kernel_rfl) (by kernel_rfl) (by kernel_rfl) (by kernel_rfl) (lget_some h9).2 (by kernel_rfl)) (fun hc => ?_) (fun hc => ?_)
        · have h := ite_t h (id hc)
          refine AtO.seg 17 (by kernel_rfl) ?_
          refine AtO.go (p' := [1, 1, 1, 1, 0, 1, 0, 0, 1, 0, 0, 1, 1, 1, 1, 0, 0, 1, 0, 0, 0, 1, 0, 0]) (F' := []) 1 (by kernel_rfl) (by kernel_rfl) ?_
          refine Pt.reg (by kernel_rfl) ?_
          refine AtO.seg 1 (by kernel_rfl) ?_
          refine AtO.go (p' := [1, 1, 1, 1, 0, 1, 0, 0, 1, 0, 0, 1, 1, 1, 1, 0, 0, 1, 0, 0, 0, 1, 0, 1]) (F' := [(2, .lit (.bool false))]) 0 (by kernel_rfl) (by kernel_rfl) ?_
          exact Pt.ret false (by kernel_rfl) (by kernel_rfl) h
        · have h := ite_f h (fls hc)
          refine AtO.seg 3 (by kernel_rfl) ?_
          refine AtO.bool (b := (decide (0 < y7_L2))) (by kernel_rfl) (by kernel_rfl) (fun hc => ?_) (fun hc => ?_)
          · have h := ite_t h (of_decide_eq_true hc)
            refine AtO.seg 3 (by kernel_rfl) ?_
            refine AtO.val (by kernel_rfl) (val_idx_sl (t := 38) (x := (.tmp 77)) (ix := (.tmp 78)) (et := 3) (k := 1) (e := (eI .i64)) (l := a2) (i := y7_L2) (q := .i64) (a := a6) (by kernel_rfl) (by kernel_rfl) (by kernel_rfl) (by kernel_rfl) (by kernel_rfl) h7 (by kernel_rfl)) ?_
            obtain ⟨a10, h11, h⟩ := h
            refine AtO.seg 4 (by kernel_rfl) ?_
            refine AtO.val (by kernel_rfl) (val_idx_sl (t := 38) (x := (.tmp 81)) (ix := (.tmp 83)) (et := 3) (k := 1) (e := (eI .i64)) (l := a2) (i := (IntKind.wrap .i64 (y7_L2 - 1))) (q := .i64) (a := a10) (by kernel_rfl) (by kernel_rfl) (by kernel_rfl) (by kernel_rfl) (by kernel_rfl) h11 (by kernel_rfl)) ?_
            refine AtO.seg 1 (by kernel_rfl) ?_
            refine AtO.bool (b := (decide (a6 ≤ a10))) (by kernel_rfl) (by kernel_rfl) (fun hc => ?_) (fun hc => ?_)
            · have h := ite_t h (of_decide_eq_true hc)
              refine AtO.seg 2 (by kernel_rfl) ?_
              refine AtO.go (p' := [1, 1, 1, 1, 0, 1, 0, 0, 1, 0, 0, 1, 1, 1, 1, 0, 0, 1, 0, 0, 0, 1, 0, 0]) (F' := []) 1 (by kernel_rfl) (by kernel_rfl) ?_
              refine Pt.reg (by kernel_rfl) ?_
              refine AtO.seg 1 (by kernel_rfl) ?_
              refine AtO.go (p' := [1, 1, 1, 1, 0, 1, 0, 0, 1, 0, 0, 1, 1, 1, 1, 0, 0, 1, 0, 0, 0, 1, 0, 1]) (F' := [(2, .lit (.bool false))]) 0 (by kernel_rfl) (by kernel_rfl) ?_
              exact Pt.ret false (by kernel_rfl) (by kernel_rfl) h
            · have h := ite_f h (of_decide_eq_false hc)
              refine AtO.seg 2 (by kernel_rfl) ?_
              refine AtO.go (p' := [1, 1, 1, 1, 0, 1, 0, 0, 1, 0, 0, 1, 1, 1, 1, 0, 0, 1, 0, 0, 1]) (F' := [(0, .agg [.lit (.int .i64 x0.Rows), .sl (x0.Classes.map (eSl (eI .i64)))]), (1, .box [.lit (.int .i64 x0.Rows), .sl (x0.Classes.map (eSl (eI .i64)))]), (3, .own (y3_L2.map eB)), (4, .lit (.int .i64 a4)), (5, .lit (.int .i64 y5_L2)), (6, .sl (a2.map (eI .i64))), (7, .lit (.int .i64 y7_L2))]) 2 (by kernel_rfl) (by kernel_rfl) ?_
              exact h
          · have h := ite_f h (of_decide_eq_false hc)
            refine AtO.seg 13 (by kernel_rfl) ?_
            refine AtO.go (p' := [1, 1, 1, 1, 0, 1, 0, 0, 1, 0, 0, 1, 1, 1, 1, 0, 0, 1, 0, 0, 1]) (F' := [(0, .agg [.lit (.int .i64 x0.Rows), .sl (x0.Classes.map (eSl (eI .i64)))]), (1, .box [.lit (.int .i64 x0.Rows), .sl (x0.Classes.map (eSl (eI .i64)))]), (3, .own (y3_L2.map eB)), (4, .lit (.int .i64 a4)), (5, .lit (.int .i64 y5_L2)), (6, .sl (a2.map (eI .i64))), (7, .lit (.int .i64 y7_L2))]) 2 (by kernel_rfl) (by kernel_rfl) ?_
            exact h
  · have h := ite_f h (of_decide_eq_false hc)
    refine AtO.go (p' := [1, 1, 1, 1, 0, 1, 0, 0, 1, 1]) (F' := [(0, .agg [.lit (.int .i64 x0.Rows), .sl (x0.Classes.map (eSl (eI .i64)))]), (1, .box [.lit (.int .i64 x0.Rows), .sl (x0.Classes.map (eSl (eI .i64)))]), (3, .own (y3_L2.map eB)), (4, .lit (.int .i64 a4)), (5, .lit (.int .i64 y5_L2))]) 2 (by kernel_rfl) (by kernel_rfl) ?_
    refine Pt.reg (by kernel_rfl) ?_
    refine AtO.seg 3 (by kernel_rfl) ?_
    refine AtO.go (p' := [1, 1, 1, 1, 0, 1, 0]) (F' := [(0, .agg [.lit (.int .i64 x0.Rows), .sl (x0.Classes.map (eSl (eI .i64)))]), (1, .box [.lit (.int .i64 x0.Rows), .sl (x0.Classes.map (eSl (eI .i64)))]), (3, .own (y3_L2.map eB)), (4, .lit (.int .i64 a4)), (5, .lit (.int .i64 ((IntKind.wrap .i64 (y5_L2 + 1)))))]) 0 (by kernel_rfl) (by kernel_rfl) ?_
    exact h
theorem L3_step (x0 : api_Partition) (y3_L2 : List Bool) (a4 : Int) (y5_L3 : Int) (a2 : List Int) (y7_L2 : Int) (φ : Bool → Prop) (h :
    ∃ a12, lget a2 y7_L2 = some a12 ∧
    ∃ a14, lget y3_L2 a12 = some a14 ∧
    drossref08_Valid.L2 x0 ((lset y3_L2 a12 true)) a4 y5_L3 a2 ((IntKind.wrap .i64 (y7_L2 + 1))) φ) : L3 x0 y3_L2 a4 y5_L3 a2 y7_L2 φ := by
  unfold L3
  refine Pt.reg (by kernel_rfl) ?_
  obtain ⟨a12, h13, h⟩ := h
  refine AtO.seg 3 (by kernel_rfl) ?_
  refine AtO.val (by kernel_rfl) (val_idx_sl (t := 38) (x := (.tmp 90)) (ix := (.tmp 91)) (et := 3) (k := 1) (e := (eI .i64)) (l := a2) (i := y7_L2) (q := .i64) (a := a12) (by kernel_rfl) (by kernel_rfl) (by kernel_rfl) (by kernel_rfl) (by kernel_rfl) h13 (by kernel_rfl)) ?_
  obtain ⟨a14, h15, h⟩ := h
  refine AtO.seg 1 (by kernel_rfl) ?_
  refine AtO.val (by kernel_rfl) (val_idx_ow (s := 3) (ps := []) (t := 70) (x := (.tmp 89)) (ix := (.tmp 93)) (et := 4) (k := 1) (e := eB) (l := y3_L2) (i := a12) (q := .i64) (a := a14) (by kernel_rfl) (by kernel_rfl) (by kernel_rfl) (by kernel_rfl) (by kernel_rfl) (by kernel_rfl) h15 (by kernel_rfl)) ?_
  refine AtO.op (by kernel_rfl) (store1 (t := 4) (x := (.tmp 94)) (y := (.const (.bool true))) (s := 3) (ps := []) (n := (a12.toNat)) (c := 0) (e := eB) (l := y3_L2) (a := a14) (b := true) (k := 1) (d := .lit (.bool true)) (by kernel_rfl) (by kernel_rfl) (by kernel_rfl) (by kernel_rfl) (lget_some h15).2 (by kernel_rfl) (by kernel_rfl) (by kernel_rfl) (by kernel_rfl) (by kernel_rfl) (setG_eq (by kernel_rfl))) ?_
  refine AtO.go (p' := [1, 1, 1, 1, 0, 1, 0, 0, 1, 0, 0, 1, 1, 1, 1, 0, 0, 1, 1]) (F' := [(0, .agg [.lit (.int .i64 x0.Rows), .sl (x0.Classes.map (eSl (eI .i64)))]), (1, .box [.lit (.int .i64 x0.Rows), .sl (x0.Classes.map (eSl (eI .i64)))]), (3, .own (((lset y3_L2 a12 true)).map eB)), (4, .lit (.int .i64 a4)), (5, .lit (.int .i64 y5_L3)), (6, .sl (a2.map (eI .i64))), (7, .lit (.int .i64 y7_L2))]) 0 (by kernel_rfl) (by kernel_rfl) ?_
  refine Pt.reg (by kernel_rfl) ?_
  refine AtO.seg 3 (by kernel_rfl) ?_
  refine AtO.go (p' := [1, 1, 1, 1, 0, 1, 0, 0, 1, 0, 0, 1, 1, 1, 1, 0]) (F' := [(0, .agg [.lit (.int .i64 x0.Rows), .sl (x0.Classes.map (eSl (eI .i64)))]), (1, .box [.lit (.int .i64 x0.Rows), .sl (x0.Classes.map (eSl (eI .i64)))]), (3, .own (((lset y3_L2 a12 true)).map eB)), (4, .lit (.int .i64 a4)), (5, .lit (.int .i64 y5_L3)), (6, .sl (a2.map (eI .i64))), (7, .lit (.int .i64 ((IntKind.wrap .i64 (y7_L2 + 1)))))]) 0 (by kernel_rfl) (by kernel_rfl) ?_
  exact h
theorem enter (x0 : api_Partition) (φ : Bool → Prop) (h :
    (if x0.Rows < 0 then
      φ false
    else
      (if 1000 < x0.Rows then
        φ false
      else
        (0 ≤ x0.Rows ∧ x0.Rows * 1 ≤ 281474976710656) ∧
        drossref08_Valid.L1 x0 ((List.replicate x0.Rows.toNat false)) ((-1)) 0 φ))) : ∃ r, φ r ∧ C x0 r := by
  refine Ret.of_at (E := env) (f := 16) (fd := Tryd.f16) (body := B) (p := [0]) (V := W) (F := [(0, .agg [.lit (.int .i64 x0.Rows), .sl (x0.Classes.map (eSl (eI .i64)))]), (1, .undef), (2, .undef), (3, .undef), (4, .undef), (5, .undef), (6, .undef), (7, .undef), (15, .undef), (23, .undef), (40, .undef), (47, .undef), (88, .undef)]) (res := res) (φ := φ) (ds := [.agg [.lit (.int .i64 x0.Rows), .sl (x0.Classes.map (eSl (eI .i64)))]]) (by kernel_rfl) (by kernel_rfl) (by kernel_rfl) ⟨Nat.le_of_ble_eq_true (by kernel_rfl), Nat.le_of_ble_eq_true (by kernel_rfl)⟩ (by kernel_rfl) (by kernel_rfl) (by kernel_rfl) ?_
  refine Pt.reg (by kernel_rfl) ?_
  refine AtO.seg 2 (by kernel_rfl) ?_
  refine AtO.go (p' := [1, 0, 0]) (F' := [(0, .agg [.lit (.int .i64 x0.Rows), .sl (x0.Classes.map (eSl (eI .i64)))]), (1, .box [.lit (.int .i64 x0.Rows), .sl (x0.Classes.map (eSl (eI .i64)))])]) 0 (by kernel_rfl) (by kernel_rfl) ?_
  refine Pt.reg (by kernel_rfl) ?_
  refine AtO.seg 2 (by kernel_rfl) ?_
  refine AtO.bool (b := (decide (x0.Rows < 0))) (by kernel_rfl) (by kernel_rfl) (fun hc => ?_) (fun hc => ?_)
  · have h := ite_t h (of_decide_eq_true hc)
    refine AtO.seg 5 (by kernel_rfl) ?_
    refine AtO.go (p' := [1, 0, 1, 0, 0]) (F' := []) 1 (by kernel_rfl) (by kernel_rfl) ?_
    refine Pt.reg (by kernel_rfl) ?_
    refine AtO.seg 1 (by kernel_rfl) ?_
    refine AtO.go (p' := [1, 0, 1, 0, 1]) (F' := [(2, .lit (.bool false))]) 0 (by kernel_rfl) (by kernel_rfl) ?_
    exact Pt.ret false (by kernel_rfl) (by kernel_rfl) h
  · have h := ite_f h (of_decide_eq_false hc)
    refine AtO.seg 3 (by kernel_rfl) ?_
    refine AtO.bool (b := (decide (1000 < x0.Rows))) (by kernel_rfl) (by kernel_rfl) (fun hc => ?_) (fun hc => ?_)
    · have h := ite_t h (of_decide_eq_true hc)
      refine AtO.seg 1 (by kernel_rfl) ?_
      refine AtO.go (p' := [1, 0, 1, 0, 0]) (F' := []) 1 (by kernel_rfl) (by kernel_rfl) ?_
      refine Pt.reg (by kernel_rfl) ?_
      refine AtO.seg 1 (by kernel_rfl) ?_
      refine AtO.go (p' := [1, 0, 1, 0, 1]) (F' := [(2, .lit (.bool false))]) 0 (by kernel_rfl) (by kernel_rfl) ?_
      exact Pt.ret false (by kernel_rfl) (by kernel_rfl) h
    · have h := ite_f h (of_decide_eq_false hc)
      refine AtO.seg 1 (by kernel_rfl) ?_
      refine AtO.go (p' := [1, 1, 0]) (F' := [(0, .agg [.lit (.int .i64 x0.Rows), .sl (x0.Classes.map (eSl (eI .i64)))]), (1, .box [.lit (.int .i64 x0.Rows), .sl (x0.Classes.map (eSl (eI .i64)))])]) 2 (by kernel_rfl) (by kernel_rfl) ?_
      refine Pt.reg (by kernel_rfl) ?_
      obtain ⟨h1, h⟩ := h
      refine AtO.seg 2 (by kernel_rfl) ?_
      refine AtO.val (by kernel_rfl) (val_make (t := 70) (x := (.tmp 17)) (y := (.tmp 17)) (q := .i64) (i := x0.Rows) (et := 4) (z := .lit (.bool false)) (e := eB) (a := false) (k := 1) (by kernel_rfl) (by kernel_rfl) (by kernel_rfl) (by kernel_rfl) (by kernel_rfl) (by kernel_rfl) (by kernel_rfl) (by kernel_rfl) (by kernel_rfl) (by kernel_rfl) h1.1 h1.2) ?_
      refine AtO.seg 1 (by kernel_rfl) ?_
      refine AtO.go (p' := [1, 1, 1, 0]) (F' := [(0, .agg [.lit (.int .i64 x0.Rows), .sl (x0.Classes.map (eSl (eI .i64)))]), (1, .box [.lit (.int .i64 x0.Rows), .sl (x0.Classes.map (eSl (eI .i64)))]), (3, .own (((List.replicate x0.Rows.toNat false)).map eB))]) 0 (by kernel_rfl) (by kernel_rfl) ?_
      refine Pt.reg (by kernel_rfl) ?_
      refine AtO.seg 1 (by kernel_rfl) ?_
      refine AtO.go (p' := [1, 1, 1, 1, 0, 0]) (F' := [(0, .agg [.lit (.int .i64 x0.Rows), .sl (x0.Classes.map (eSl (eI .i64)))]), (1, .box [.lit (.int .i64 x0.Rows), .sl (x0.Classes.map (eSl (eI .i64)))]), (3, .own (((List.replicate x0.Rows.toNat false)).map eB)), (4, .lit (.int .i64 ((-1))))]) 0 (by kernel_rfl) (by kernel_rfl) ?_
      refine Pt.reg (by kernel_rfl) ?_
      refine AtO.seg 1 (by kernel_rfl) ?_
      refine AtO.go (p' := [1, 1, 1, 1, 0, 1, 0]) (F' := [(0, .agg [.lit (.int .i64 x0.Rows), .sl (x0.Classes.map (eSl (eI .i64)))]), (1, .box [.lit (.int .i64 x0.Rows), .sl (x0.Classes.map (eSl (eI .i64)))]), (3, .own (((List.replicate x0.Rows.toNat false)).map eB)), (4, .lit (.int .i64 ((-1)))), (5, .lit (.int .i64 0))]) 0 (by kernel_rfl) (by kernel_rfl) ?_
      exact h
end drossref08_Valid
end Go.Own

namespace Go.Own
def okClass (rows : Int) : Int → List Bool → List Int → Option (List Bool)
  | _, seen, [] => some seen
  | before, seen, i :: r => if i ≤ before ∨ rows ≤ i ∨ lget seen i = some true then none else okClass rows i (lset seen i true) r
def okClasses (rows : Int) : Int → List Bool → List (List Int) → Bool
  | _, _, [] => true
  | first, seen, c :: cs => match c with
    | [] => false
    | [_] => false
    | a :: b :: r => if a ≤ first then false else match okClass rows (-1) seen (a :: b :: r) with
      | none => false
      | some seen' => okClasses rows a seen' cs
def validF (p : api_Partition) : Bool := if p.Rows < 0 then false else if 1000 < p.Rows then false else okClasses p.Rows (-1) (List.replicate p.Rows.toNat false) p.Classes
def Small (p : api_Partition) : Prop := p.Classes.length < Big ∧ ∀ c ∈ p.Classes, c.length < Big
theorem okClass_len {rows : Int} : ∀ {r : List Int} {b : Int} {s s' : List Bool}, okClass rows b s r = some s' → s'.length = s.length
  | [], _, _, _, h => by simp [okClass] at h; rw [h]
  | i :: r, b, s, s', h => by
    simp only [okClass] at h
    split at h
    · cases h
    · have := okClass_len h
      rw [this, lset_length]
namespace partition_Valid
theorem inner {x0 : api_Partition} {a4 y24 : Int} {a2 : List Int} {φ : Bool → Prop} (hb : a2.length < Big) : ∀ (r : List Int) (k : Nat) (seen : List Bool) (before : Int), a2.drop k = r → (seen.length : Int) = x0.Rows → -1 ≤ before →
    (match okClass x0.Rows before seen r with
      | none => φ false
      | some s => L1 x0 s a4 (IntKind.wrap .i64 (y24 + 1)) φ) → L2 x0 seen a4 a2 before y24 k φ
  | [], k, seen, before, hd, hs, hbf, h => by
    apply L2_step
    have := drop_ge hd
    rw [if_neg (by omega)]
    exact h
  | i :: r, k, seen, before, hd, hs, hbf, h => by
    apply L2_step
    have hk := drop_lt hd
    rw [if_pos (by omega)]
    refine ⟨i, lget_drop hd, ?_⟩
    simp only [okClass] at h
    split
    · rename_i h1
      rw [if_pos (.inl h1)] at h; exact h
    · rename_i h1
      split
      · rename_i h2
        rw [if_pos (.inr (.inl h2))] at h; exact h
      · rename_i h2
        obtain ⟨b, hg⟩ := lget_lt (l := seen) (i := i) (by omega) (by omega)
        refine ⟨b, hg, ?_⟩
        split
        · rename_i h3
          subst h3
          rw [if_pos (.inr (.inr hg))] at h; exact h
        · rename_i h3
          have : ¬ (i ≤ before ∨ x0.Rows ≤ i ∨ lget seen i = some true) := by
            rintro (h | h | h)
            · exact h1 h
            · exact h2 h
            · rw [hg] at h; exact h3 (Option.some.inj h)
          rw [if_neg this] at h
          rw [wrap_succ (by unfold Big at hb; omega)]
          exact inner hb r (k + 1) _ i (drop_next hd) (by rw [lset_length]; exact hs) (by omega) h
theorem outer {x0 : api_Partition} {φ : Bool → Prop} (hb : Small x0) : ∀ (cs : List (List Int)) (k : Nat) (seen : List Bool) (first : Int), x0.Classes.drop k = cs → (seen.length : Int) = x0.Rows →
    φ (okClasses x0.Rows first seen cs) → L1 x0 seen first k φ
  | [], k, seen, first, hd, hs, h => by
    apply L1_step
    have := drop_ge hd
    rw [if_neg (by omega)]
    exact h
  | c :: cs, k, seen, first, hd, hs, h => by
    apply L1_step
    have hk := drop_lt hd
    have hc : c ∈ x0.Classes := List.mem_of_getElem? (drop_get hd)
    rw [if_pos (by omega)]
    refine ⟨c, lget_drop hd, ?_⟩
    match c, hc, h, hd with
    | [], _, h, hd => simp only [List.length_nil]; exact h
    | [_], _, h, hd => simp only [List.length_singleton]; exact h
    | a :: b :: r, hc, h, hd =>
      rw [if_neg (by simp; omega)]
      refine ⟨a, by simp [lget], ?_⟩
      simp only [okClasses] at h
      split
      · rename_i h1; rw [if_pos h1] at h; exact h
      · rename_i h1
        rw [if_neg h1] at h
        refine inner (hb.2 _ hc) (a :: b :: r) 0 seen (-1) rfl hs (by omega) ?_
        cases ho : okClass x0.Rows (-1) seen (a :: b :: r) with
        | none => rw [ho] at h; exact h
        | some s =>
          rw [ho] at h
          simp only at h ⊢
          rw [wrap_succ (by have := hb.1; unfold Big at this; omega)]
          exact outer hb cs (k + 1) s a (drop_next hd) (by rw [okClass_len ho]; exact hs) h
theorem spec {x0 : api_Partition} (hb : Small x0) : C x0 (validF x0) := by
  obtain ⟨r, h1, h2⟩ := enter x0 (fun r => r = validF x0) (by
    unfold validF
    split
    · rfl
    · split
      · rfl
      · refine ⟨by omega, ?_⟩
        exact outer hb x0.Classes 0 _ (-1) rfl (by simp; omega) rfl)
  rw [← h1]; exact h2
end partition_Valid
namespace drossref08_Valid
theorem inner {x0 : api_Partition} {a4 y24 : Int} {a2 : List Int} {φ : Bool → Prop} (hb : a2.length < Big) : ∀ (r : List Int) (k : Nat) (seen : List Bool) (before : Int), a2.drop k = r → (seen.length : Int) = x0.Rows → (k = 0 → before = -1) → (0 < k → lget a2 ((k : Int) - 1) = some before ∧ 0 ≤ before) →
    (match okClass x0.Rows before seen r with
      | none => φ false
      | some s => L1 x0 s a4 (IntKind.wrap .i64 (y24 + 1)) φ) → L2 x0 seen a4 y24 a2 k φ
  | [], k, seen, before, hd, hs, hb0, hb1, h => by
    apply L2_step
    have := drop_ge hd
    rw [if_neg (by omega)]
    exact h
  | i :: r, k, seen, before, hd, hs, hb0, hb1, h => by
    apply L2_step
    have hk := drop_lt hd
    rw [if_pos (by omega)]
    refine ⟨i, lget_drop hd, ?_⟩
    simp only [okClass] at h
    have hbe : -1 ≤ before := by
      rcases Nat.eq_zero_or_pos k with h0 | h0
      · rw [hb0 h0]; omega
      · have := (hb1 h0).2; omega
    split
    · rename_i h1
      rw [if_pos (.inl (by omega))] at h; exact h
    · rename_i h1
      split
      · rename_i h2
        rw [if_pos (.inr (.inl h2))] at h; exact h
      · rename_i h2
        obtain ⟨b, hg⟩ := lget_lt (l := seen) (i := i) (by omega) (by omega)
        refine ⟨b, hg, ?_⟩
        split
        · rename_i h3
          subst h3
          rw [if_pos (.inr (.inr hg))] at h; exact h
        · rename_i h3
          have go : i > before → L3 x0 seen a4 y24 a2 k φ := fun hib => by
            have : ¬ (i ≤ before ∨ x0.Rows ≤ i ∨ lget seen i = some true) := by
              rintro (h | h | h)
              · omega
              · exact h2 h
              · rw [hg] at h; exact h3 (Option.some.inj h)
            rw [if_neg this] at h
            apply L3_step
            refine ⟨i, lget_drop hd, b, hg, ?_⟩
            rw [wrap_succ (by unfold Big at hb; omega)]
            refine inner hb r (k + 1) _ i (drop_next hd) (by rw [lset_length]; exact hs) (by omega) (fun _ => ⟨?_, by omega⟩) h
            have : ((k + 1 : Nat) : Int) - 1 = (k : Int) := by omega
            rw [this]; exact lget_drop hd
          split
          · rename_i h4
            have h5 := hb1 (by omega)
            refine ⟨before, ?_, ?_⟩
            · rw [wrap_id (by omega) (by unfold Big at hb; omega)]; exact h5.1
            · split
              · rename_i h6
                rw [if_pos (.inl h6)] at h; exact h
              · exact go (by omega)
          · rename_i h4
            have := hb0 (by omega)
            exact go (by omega)
theorem outer {x0 : api_Partition} {φ : Bool → Prop} (hb : Small x0) : ∀ (cs : List (List Int)) (k : Nat) (seen : List Bool) (first : Int), x0.Classes.drop k = cs → (seen.length : Int) = x0.Rows →
    φ (okClasses x0.Rows first seen cs) → L1 x0 seen first k φ
  | [], k, seen, first, hd, hs, h => by
    apply L1_step
    have := drop_ge hd
    rw [if_neg (by omega)]
    exact h
  | c :: cs, k, seen, first, hd, hs, h => by
    apply L1_step
    have hk := drop_lt hd
    have hc : c ∈ x0.Classes := List.mem_of_getElem? (drop_get hd)
    rw [if_pos (by omega)]
    refine ⟨c, lget_drop hd, ?_⟩
    match c, hc, h, hd with
    | [], _, h, hd => simp only [List.length_nil]; exact h
    | [_], _, h, hd => simp only [List.length_singleton]; exact h
    | a :: b :: r, hc, h, hd =>
      rw [if_neg (by simp; omega)]
      refine ⟨a, by simp [lget], ?_⟩
      simp only [okClasses] at h
      split
      · rename_i h1; rw [if_pos h1] at h; exact h
      · rename_i h1
        rw [if_neg h1] at h
        refine inner (hb.2 _ hc) (a :: b :: r) 0 seen (-1) rfl hs (fun _ => rfl) (fun h => by omega) ?_
        cases ho : okClass x0.Rows (-1) seen (a :: b :: r) with
        | none => rw [ho] at h; exact h
        | some s =>
          rw [ho] at h
          simp only at h ⊢
          rw [wrap_succ (by have := hb.1; unfold Big at this; omega)]
          exact outer hb cs (k + 1) s a (drop_next hd) (by rw [okClass_len ho]; exact hs) h
theorem spec {x0 : api_Partition} (hb : Small x0) : C x0 (validF x0) := by
  obtain ⟨r, h1, h2⟩ := enter x0 (fun r => r = validF x0) (by
    unfold validF
    split
    · rfl
    · split
      · rfl
      · refine ⟨by omega, ?_⟩
        exact outer hb x0.Classes 0 _ (-1) rfl (by simp; omega) rfl)
  rw [← h1]; exact h2
end drossref08_Valid
end Go.Own

namespace Go.Own
open Go.Proofs D
set_option maxRecDepth 100000
set_option maxHeartbeats 4000000
namespace drossref08_Labels
noncomputable def B : Code := (Tryd.f39.body).getD .skip
def W : List Nat := [0, 1, 2, 3, 4, 5, 6, 13, 24, 34]
def res (r : List Int) : D × List D := (.own (r.map (eI .i64)), [])
def C (x0 : api_Partition) (r : List Int) : Prop := Ret env 39 [.agg [.lit (.int .i64 x0.Rows), .sl (x0.Classes.map (eSl (eI .i64)))]] (res r).1 (res r).2
def L1 (x0 : api_Partition) (y3_L1 : List Int) (y4_L1 : Int) (φ : List Int → Prop) : Prop := Pt env 39 W B [1, 1, 0, 1, 0] [(0, .agg [.lit (.int .i64 x0.Rows), .sl (x0.Classes.map (eSl (eI .i64)))]), (1, .box [.lit (.int .i64 x0.Rows), .sl (x0.Classes.map (eSl (eI .i64)))]), (3, .own (y3_L1.map (eI .i64))), (4, .lit (.int .i64 y4_L1))] (Lv env 39 Tryd.f39 1 res φ)
def L2 (x0 : api_Partition) (y3_L1 : List Int) (y5_L2 : Int) (φ : List Int → Prop) : Prop := Pt env 39 W B [1, 1, 1, 0, 1, 0] [(0, .agg [.lit (.int .i64 x0.Rows), .sl (x0.Classes.map (eSl (eI .i64)))]), (1, .box [.lit (.int .i64 x0.Rows), .sl (x0.Classes.map (eSl (eI .i64)))]), (3, .own (y3_L1.map (eI .i64))), (5, .lit (.int .i64 y5_L2))] (Lv env 39 Tryd.f39 1 res φ)
def L3 (x0 : api_Partition) (y3_L1 : List Int) (y5_L3 : Int) (y6_L3 : Int) (φ : List Int → Prop) : Prop := Pt env 39 W B [1, 1, 1, 0, 1, 0, 0, 1, 0, 0, 1, 0] [(0, .agg [.lit (.int .i64 x0.Rows), .sl (x0.Classes.map (eSl (eI .i64)))]), (1, .box [.lit (.int .i64 x0.Rows), .sl (x0.Classes.map (eSl (eI .i64)))]), (3, .own (y3_L1.map (eI .i64))), (5, .lit (.int .i64 y5_L3)), (6, .lit (.int .i64 y6_L3))] (Lv env 39 Tryd.f39 1 res φ)
theorem L1_step (x0 : api_Partition) (y3_L1 : List Int) (y4_L1 : Int) (φ : List Int → Prop) (h :
    (if y4_L1 < x0.Rows then
      ∃ a2, lget y3_L1 y4_L1 = some a2 ∧
      drossref08_Labels.L1 x0 ((lset y3_L1 y4_L1 y4_L1)) ((IntKind.wrap .i64 (y4_L1 + 1))) φ
    else
      drossref08_Labels.L2 x0 y3_L1 0 φ)) : L1 x0 y3_L1 y4_L1 φ := by
  unfold L1
  refine Pt.loop (p' := [1, 1, 0, 1, 0, 0, 0, 0]) (by kernel_rfl) (by kernel_rfl) ?_
  refine Pt.reg (by kernel_rfl) ?_
  refine AtO.seg 3 (by kernel_rfl) ?_
  refine AtO.bool (b := (decide (y4_L1 < x0.Rows))) (by kernel_rfl) (by kernel_rfl) (fun hc => ?_) (fun hc => ?_)
  · have h := ite_t h (of_decide_eq_true hc)
    refine AtO.go (p' := [1, 1, 0, 1, 0, 0, 1, 0, 0]) (F' := [(0, .agg [.lit (.int .i64 x0.Rows), .sl (x0.Classes.map (eSl (eI .i64)))]), (1, .box [.lit (.int .i64 x0.Rows), .sl (x0.Classes.map (eSl (eI .i64)))]), (3, .own (y3_L1.map (eI .i64))), (4, .lit (.int .i64 y4_L1))]) 2 (by kernel_rfl) (by kernel_rfl) ?_
    refine Pt.reg (by kernel_rfl) ?_
    obtain ⟨a2, h3, h⟩ := h
    refine AtO.seg 3 (by kernel_rfl) ?_
    refine AtO.val (by kernel_rfl) (val_idx_ow (s := 3) (ps := []) (t := 38) (x := (.tmp 16)) (ix := (.tmp 17)) (et := 3) (k := 1) (e := (eI .i64)) (l := y3_L1) (i := y4_L1) (q := .i64) (a := a2) (by kernel_rfl) (by kernel_rfl) (by kernel_rfl) (by kernel_rfl) (by kernel_rfl) (by kernel_rfl) h3 (by kernel_rfl)) ?_
    refine AtO.op (by kernel_rfl) (store1 (t := 3) (x := (.tmp 19)) (y := (.tmp 18)) (s := 3) (ps := []) (n := (y4_L1.toNat)) (c := 0) (e := (eI .i64)) (l := y3_L1) (a := a2) (b := y4_L1) (k := 1) (d := .lit (.int .i64 y4_L1)) (by kernel_rfl) (by kernel_rfl) (by kernel_rfl) (by kernel_rfl) (lget_some h3).2 (by kernel_rfl) (by kernel_rfl) (by kernel_rfl) (by kernel_rfl) (by kernel_rfl) (setG_eq (by kernel_rfl))) ?_
    refine AtO.go (p' := [1, 1, 0, 1, 0, 0, 1, 1]) (F' := [(0, .agg [.lit (.int .i64 x0.Rows), .sl (x0.Classes.map (eSl (eI .i64)))]), (1, .box [.lit (.int .i64 x0.Rows), .sl (x0.Classes.map (eSl (eI .i64)))]), (3, .own (((lset y3_L1 y4_L1 y4_L1)).map (eI .i64))), (4, .lit (.int .i64 y4_L1))]) 0 (by kernel_rfl) (by kernel_rfl) ?_
    refine Pt.reg (by kernel_rfl) ?_
    refine AtO.seg 3 (by kernel_rfl) ?_
    refine AtO.go (p' := [1, 1, 0, 1, 0]) (F' := [(0, .agg [.lit (.int .i64 x0.Rows), .sl (x0.Classes.map (eSl (eI .i64)))]), (1, .box [.lit (.int .i64 x0.Rows), .sl (x0.Classes.map (eSl (eI .i64)))]), (3, .own (((lset y3_L1 y4_L1 y4_L1)).map (eI .i64))), (4, .lit (.int .i64 ((IntKind.wrap .i64 (y4_L1 + 1)))))]) 0 (by kernel_rfl) (by kernel_rfl) ?_
    exact h
  · have h := ite_f h (of_decide_eq_false hc)
    refine AtO.go (p' := [1, 1, 1, 0, 0]) (F' := [(0, .agg [.lit (.int .i64 x0.Rows), .sl (x0.Classes.map (eSl (eI .i64)))]), (1, .box [.lit (.int .i64 x0.Rows), .sl (x0.Classes.map (eSl (eI .i64)))]), (3, .own (y3_L1.map (eI .i64)))]) 2 (by kernel_rfl) (by kernel_rfl) ?_
    refine Pt.reg (by kernel_rfl) ?_
    refine AtO.seg 1 (by kernel_rfl) ?_
    refine AtO.go (p' := [1, 1, 1, 0, 1, 0]) (F' := [(0, .agg [.lit (.int .i64 x0.Rows), .sl (x0.Classes.map (eSl (eI .i64)))]), (1, .box [.lit (.int .i64 x0.Rows), .sl (x0.Classes.map (eSl (eI .i64)))]), (3, .own (y3_L1.map (eI .i64))), (5, .lit (.int .i64 0))]) 0 (by kernel_rfl) (by kernel_rfl) ?_
    exact h
theorem L2_step (x0 : api_Partition) (y3_L1 : List Int) (y5_L2 : Int) (φ : List Int → Prop) (h :
    (if y5_L2 < (x0.Classes.length : Int) then
      drossref08_Labels.L3 x0 y3_L1 y5_L2 0 φ
    else
      φ y3_L1)) : L2 x0 y3_L1 y5_L2 φ := by
  unfold L2
  refine Pt.loop (p' := [1, 1, 1, 0, 1, 0, 0, 0, 0]) (by kernel_rfl) (by kernel_rfl) ?_
  refine Pt.reg (by kernel_rfl) ?_
  refine AtO.seg 3 (by kernel_rfl) ?_
  refine AtO.val (by kernel_rfl) (val_len (x := (.tmp 22)) (t := 29) (et := 38) (d := .sl (x0.Classes.map (eSl (eI .i64)))) (e := (eSl (eI .i64))) (l := x0.Classes) (by kernel_rfl) (by kernel_rfl) elemsOf_sl (by kernel_rfl)) ?_
  refine AtO.bool (b := (decide (y5_L2 < (x0.Classes.length : Int)))) (by kernel_rfl) (by kernel_rfl) (fun hc => ?_) (fun hc => ?_)
  · have h := ite_t h (of_decide_eq_true hc)
    refine AtO.go (p' := [1, 1, 1, 0, 1, 0, 0, 1, 0, 0, 0]) (F' := [(0, .agg [.lit (.int .i64 x0.Rows), .sl (x0.Classes.map (eSl (eI .i64)))]), (1, .box [.lit (.int .i64 x0.Rows), .sl (x0.Classes.map (eSl (eI .i64)))]), (3, .own (y3_L1.map (eI .i64))), (5, .lit (.int .i64 y5_L2))]) 2 (by kernel_rfl) (by kernel_rfl) ?_
    refine Pt.reg (by kernel_rfl) ?_
    refine AtO.seg 1 (by kernel_rfl) ?_
    refine AtO.go (p' := [1, 1, 1, 0, 1, 0, 0, 1, 0, 0, 1, 0]) (F' := [(0, .agg [.lit (.int .i64 x0.Rows), .sl (x0.Classes.map (eSl (eI .i64)))]), (1, .box [.lit (.int .i64 x0.Rows), .sl (x0.Classes.map (eSl (eI .i64)))]), (3, .own (y3_L1.map (eI .i64))), (5, .lit (.int .i64 y5_L2)), (6, .lit (.int .i64 0))]) 0 (by kernel_rfl) (by kernel_rfl) ?_
    exact h
  · have h := ite_f h (of_decide_eq_false hc)
    refine AtO.go (p' := [1, 1, 1, 1, 0]) (F' := [(3, .own (y3_L1.map (eI .i64)))]) 2 (by kernel_rfl) (by kernel_rfl) ?_
    refine Pt.reg (by kernel_rfl) ?_
    refine AtO.seg 2 (by kernel_rfl) ?_
    refine AtO.go (p' := [1, 1, 1, 1, 1]) (F' := [(2, .alias 3 []), (3, .own (y3_L1.map (eI .i64)))]) 0 (by kernel_rfl) (by kernel_rfl) ?_
    exact Pt.ret y3_L1 (by kernel_rfl) (by kernel_rfl) h
theorem L3_step (x0 : api_Partition) (y3_L1 : List Int) (y5_L3 : Int) (y6_L3 : Int) (φ : List Int → Prop) (h :
    ∃ a4, lget x0.Classes y5_L3 = some a4 ∧
    (if y6_L3 < (a4.length : Int) then
      ∃ a6, lget a4 y6_L3 = some a6 ∧
      ∃ a8, lget a4 0 = some a8 ∧
      ∃ a10, lget y3_L1 a6 = some a10 ∧
      drossref08_Labels.L3 x0 ((lset y3_L1 a6 a8)) y5_L3 ((IntKind.wrap .i64 (y6_L3 + 1))) φ
    else
      drossref08_Labels.L2 x0 y3_L1 ((IntKind.wrap .i64 (y5_L3 + 1))) φ)) : L3 x0 y3_L1 y5_L3 y6_L3 φ := by
  unfold L3
  refine Pt.loop (p' := [1, 1, 1, 0, 1, 0, 0, 1, 0, 0, 1, 0, 0, 0, 0]) (by kernel_rfl) (by kernel_rfl) ?_
  refine Pt.reg (by kernel_rfl) ?_
  obtain ⟨a4, h5, h⟩ := h
  refine AtO.seg 4 (by kernel_rfl) ?_
  refine AtO.val (by kernel_rfl) (val_idx_sl (t := 29) (x := (.tmp 29)) (ix := (.tmp 30)) (et := 38) (k := 1) (e := (eSl (eI .i64))) (l := x0.Classes) (i := y5_L3) (q := .i64) (a := a4) (by kernel_rfl) (by kernel_rfl) (by kernel_rfl) (by kernel_rfl) (by kernel_rfl) h5 (by kernel_rfl)) ?_
  refine AtO.seg 1 (by kernel_rfl) ?_
  refine AtO.val (by kernel_rfl) (val_len (x := (.tmp 32)) (t := 38) (et := 3) (d := .sl (a4.map (eI .i64))) (e := (eI .i64)) (l := a4) (by kernel_rfl) (by kernel_rfl) elemsOf_sl (by kernel_rfl)) ?_
  refine AtO.bool (b := (decide (y6_L3 < (a4.length : Int)))) (by kernel_rfl) (by kernel_rfl) (fun hc => ?_) (fun hc => ?_)
  · have h := ite_t h (of_decide_eq_true hc)
    refine AtO.go (p' := [1, 1, 1, 0, 1, 0, 0, 1, 0, 0, 1, 0, 0, 1, 0, 0]) (F' := [(0, .agg [.lit (.int .i64 x0.Rows), .sl (x0.Classes.map (eSl (eI .i64)))]), (1, .box [.lit (.int .i64 x0.Rows), .sl (x0.Classes.map (eSl (eI .i64)))]), (3, .own (y3_L1.map (eI .i64))), (5, .lit (.int .i64 y5_L3)), (6, .lit (.int .i64 y6_L3))]) 2 (by kernel_rfl) (by kernel_rfl) ?_
    refine Pt.reg (by kernel_rfl) ?_
    refine AtO.seg 4 (by kernel_rfl) ?_
    refine AtO.val (by kernel_rfl) (val_idx_sl (t := 29) (x := (.tmp 39)) (ix := (.tmp 40)) (et := 38) (k := 1) (e := (eSl (eI .i64))) (l := x0.Classes) (i := y5_L3) (q := .i64) (a := a4) (by kernel_rfl) (by kernel_rfl) (by kernel_rfl) (by kernel_rfl) (by kernel_rfl) h5 (by kernel_rfl)) ?_
    obtain ⟨a6, h7, h⟩ := h
    refine AtO.seg 2 (by kernel_rfl) ?_
    refine AtO.val (by kernel_rfl) (val_idx_sl (t := 38) (x := (.tmp 42)) (ix := (.tmp 43)) (et := 3) (k := 1) (e := (eI .i64)) (l := a4) (i := y6_L3) (q := .i64) (a := a6) (by kernel_rfl) (by kernel_rfl) (by kernel_rfl) (by kernel_rfl) (by kernel_rfl) h7 (by kernel_rfl)) ?_
    refine AtO.seg 4 (by kernel_rfl) ?_
    refine AtO.val (by kernel_rfl) (val_idx_sl (t := 29) (x := (.tmp 47)) (ix := (.tmp 48)) (et := 38) (k := 1) (e := (eSl (eI .i64))) (l := x0.Classes) (i := y5_L3) (q := .i64) (a := a4) (by kernel_rfl) (by kernel_rfl) (by kernel_rfl) (by kernel_rfl) (by kernel_rfl) h5 (by kernel_rfl)) ?_
    obtain ⟨a8, h9, h⟩ := h
    refine AtO.seg 1 (by kernel_rfl) ?_
    refine AtO.val (by kernel_rfl) (val_idx_sl (t := 38) (x := (.tmp 50)) (ix := (.const (.int .i64 0))) (et := 3) (k := 1) (e := (eI .i64)) (l := a4) (i := 0) (q := .i64) (a := a8) (by kernel_rfl) (by kernel_rfl) (by kernel_rfl) (by kernel_rfl) (by kernel_rfl) h9 (by kernel_rfl)) ?_
    obtain ⟨a10, h11, h⟩ := h
    refine AtO.seg 1 (by kernel_rfl) ?_
    refine AtO.val (by kernel_rfl) (val_idx_ow (s := 3) (ps := []) (t := 38) (x := (.tmp 37)) (ix := (.tmp 45)) (et := 3) (k := 1) (e := (eI .i64)) (l := y3_L1) (i := a6) (q := .i64) (a := a10) (by kernel_rfl) (by kernel_rfl) (by kernel_rfl) (by kernel_rfl) (by kernel_rfl) (by kernel_rfl) h11 (by kernel_rfl)) ?_
    refine AtO.op (by kernel_rfl) (store1 (t := 3) (x := (.tmp 53)) (y := (.tmp 52)) (s := 3) (ps := []) (n := (a6.toNat)) (c := 0) (e := (eI .i64)) (l := y3_L1) (a := a10) (b := a8) (k := 1) (d := .lit (.int .i64 a8)) (by kernel_rfl) (by kernel_rfl) (by kernel_rfl) (by kernel_rfl) (lget_some h11).2 (by kernel_rfl) (by kernel_rfl) (by kernel_rfl) (by kernel_rfl) (by kernel_rfl) (setG_eq (by kernel_rfl))) ?_
    refine AtO.go (p' := [1, 1, 1, 0, 1, 0, 0, 1, 0, 0, 1, 0, 0, 1, 1]) (F' := [(0, .agg [.lit (.int .i64 x0.Rows), .sl (x0.Classes.map (eSl (eI .i64)))]), (1, .box [.lit (.int .i64 x0.Rows), .sl (x0.Classes.map (eSl (eI .i64)))]), (3, .own (((lset y3_L1 a6 a8)).map (eI .i64))), (5, .lit (.int .i64 y5_L3)), (6, .lit (.int .i64 y6_L3))]) 0 (by kernel_rfl) (by kernel_rfl) ?_
    refine Pt.reg (by kernel_rfl) ?_
    refine AtO.seg 3 (by kernel_rfl) ?_
    refine AtO.go (p' := [1, 1, 1, 0, 1, 0, 0, 1, 0, 0, 1, 0]) (F' := [(0, .agg [.lit (.int .i64 x0.Rows), .sl (x0.Classes.map (eSl (eI .i64)))]), (1, .box [.lit (.int .i64 x0.Rows), .sl (x0.Classes.map (eSl (eI .i64)))]), (3, .own (((lset y3_L1 a6 a8)).map (eI .i64))), (5, .lit (.int .i64 y5_L3)), (6, .lit (.int .i64 ((IntKind.wrap .i64 (y6_L3 + 1)))))]) 0 (by kernel_rfl) (by kernel_rfl) ?_
    exact h
  · have h := ite_f h (of_decide_eq_false hc)
    refine AtO.go (p' := [1, 1, 1, 0, 1, 0, 0, 1, 1]) (F' := [(0, .agg [.lit (.int .i64 x0.Rows), .sl (x0.Classes.map (eSl (eI .i64)))]), (1, .box [.lit (.int .i64 x0.Rows), .sl (x0.Classes.map (eSl (eI .i64)))]), (3, .own (y3_L1.map (eI .i64))), (5, .lit (.int .i64 y5_L3))]) 2 (by kernel_rfl) (by kernel_rfl) ?_
    refine Pt.reg (by kernel_rfl) ?_
    refine AtO.seg 3 (by kernel_rfl) ?_
    refine AtO.go (p' := [1, 1, 1, 0, 1, 0]) (F' := [(0, .agg [.lit (.int .i64 x0.Rows), .sl (x0.Classes.map (eSl (eI .i64)))]), (1, .box [.lit (.int .i64 x0.Rows), .sl (x0.Classes.map (eSl (eI .i64)))]), (3, .own (y3_L1.map (eI .i64))), (5, .lit (.int .i64 ((IntKind.wrap .i64 (y5_L3 + 1)))))]) 0 (by kernel_rfl) (by kernel_rfl) ?_
    exact h
theorem enter (x0 : api_Partition) (φ : List Int → Prop) (h :
    (0 ≤ x0.Rows ∧ x0.Rows * 8 ≤ 281474976710656) ∧
    drossref08_Labels.L1 x0 ((List.replicate x0.Rows.toNat (0 : Int))) 0 φ) : ∃ r, φ r ∧ C x0 r := by
  refine Ret.of_at (E := env) (f := 39) (fd := Tryd.f39) (body := B) (p := [0]) (V := W) (F := [(0, .agg [.lit (.int .i64 x0.Rows), .sl (x0.Classes.map (eSl (eI .i64)))]), (1, .undef), (2, .undef), (3, .undef), (4, .undef), (5, .undef), (6, .undef), (13, .undef), (24, .undef), (34, .undef)]) (res := res) (φ := φ) (ds := [.agg [.lit (.int .i64 x0.Rows), .sl (x0.Classes.map (eSl (eI .i64)))]]) (by kernel_rfl) (by kernel_rfl) (by kernel_rfl) ⟨Nat.le_of_ble_eq_true (by kernel_rfl), Nat.le_of_ble_eq_true (by kernel_rfl)⟩ (by kernel_rfl) (by kernel_rfl) (by kernel_rfl) ?_
  refine Pt.reg (by kernel_rfl) ?_
  refine AtO.seg 2 (by kernel_rfl) ?_
  refine AtO.go (p' := [1, 0]) (F' := [(0, .agg [.lit (.int .i64 x0.Rows), .sl (x0.Classes.map (eSl (eI .i64)))]), (1, .box [.lit (.int .i64 x0.Rows), .sl (x0.Classes.map (eSl (eI .i64)))])]) 0 (by kernel_rfl) (by kernel_rfl) ?_
  refine Pt.reg (by kernel_rfl) ?_
  obtain ⟨h1, h⟩ := h
  refine AtO.seg 2 (by kernel_rfl) ?_
  refine AtO.val (by kernel_rfl) (val_make (t := 38) (x := (.tmp 8)) (y := (.tmp 8)) (q := .i64) (i := x0.Rows) (et := 3) (z := .lit (.int .i64 0)) (e := (eI .i64)) (a := (0 : Int)) (k := 8) (by kernel_rfl) (by kernel_rfl) (by kernel_rfl) (by kernel_rfl) (by kernel_rfl) (by kernel_rfl) (by kernel_rfl) (by kernel_rfl) (by kernel_rfl) (by kernel_rfl) h1.1 h1.2) ?_
  refine AtO.seg 1 (by kernel_rfl) ?_
  refine AtO.go (p' := [1, 1, 0, 0]) (F' := [(0, .agg [.lit (.int .i64 x0.Rows), .sl (x0.Classes.map (eSl (eI .i64)))]), (1, .box [.lit (.int .i64 x0.Rows), .sl (x0.Classes.map (eSl (eI .i64)))]), (3, .own (((List.replicate x0.Rows.toNat (0 : Int))).map (eI .i64)))]) 0 (by kernel_rfl) (by kernel_rfl) ?_
  refine Pt.reg (by kernel_rfl) ?_
  refine AtO.seg 1 (by kernel_rfl) ?_
  refine AtO.go (p' := [1, 1, 0, 1, 0]) (F' := [(0, .agg [.lit (.int .i64 x0.Rows), .sl (x0.Classes.map (eSl (eI .i64)))]), (1, .box [.lit (.int .i64 x0.Rows), .sl (x0.Classes.map (eSl (eI .i64)))]), (3, .own (((List.replicate x0.Rows.toNat (0 : Int))).map (eI .i64))), (4, .lit (.int .i64 0))]) 0 (by kernel_rfl) (by kernel_rfl) ?_
  exact h
end drossref08_Labels
end Go.Own

namespace Go.Own
def free : List Bool → Nat
  | [] => 0
  | b :: l => (if b then 0 else 1) + free l
theorem free_replicate (n : Nat) : free (List.replicate n false) = n := by
  induction n with
  | zero => rfl
  | succ n ih => simp only [List.replicate_succ, free, ih]; simp; omega
theorem free_set : ∀ {l : List Bool} {n : Nat}, l[n]? = some false → free (l.set n true) + 1 = free l
  | [], n, h => by simp at h
  | b :: l, 0, h => by simp at h; subst h; simp [free]; omega
  | b :: l, n + 1, h => by
    simp only [List.getElem?_cons_succ] at h
    have := free_set h
    simp only [List.set_cons_succ, free]; omega
theorem free_lset {l : List Bool} {i : Int} (h : lget l i = some false) : free (lset l i true) + 1 = free l := free_set (lget_some h).2
theorem okClass_inv {rows : Int} : ∀ {r : List Int} {i b : Int} {s s' : List Bool}, -1 ≤ b → (s.length : Int) = rows → okClass rows b s (i :: r) = some s' → b < i ∧ i < rows ∧ lget s i = some false ∧ okClass rows i (lset s i true) r = some s' := by
  intro r i b s s' hb hs h
  simp only [okClass] at h
  split at h
  · cases h
  · rename_i h1
    simp only [not_or] at h1
    obtain ⟨x, hx⟩ := lget_lt (l := s) (i := i) (by omega) (by omega)
    refine ⟨by omega, by omega, ?_, h⟩
    rw [hx] at h1 ⊢
    cases x with
    | true => exact absurd rfl h1.2.2
    | false => rfl
theorem okClass_free {rows : Int} : ∀ {r : List Int} {b : Int} {s s' : List Bool}, -1 ≤ b → (s.length : Int) = rows → okClass rows b s r = some s' → free s' + r.length = free s
  | [], b, s, s', hb, hs, h => by simp [okClass] at h; simp [h]
  | i :: r, b, s, s', hb, hs, h => by
    obtain ⟨h1, h2, h3, h4⟩ := okClass_inv hb hs h
    have := okClass_free (by omega) (by rw [lset_length]; exact hs) h4
    have h5 := free_lset h3
    simp only [List.length_cons]; omega
def extra : List (List Int) → Int
  | [] => 0
  | c :: cs => ((c.length : Int) - 1) + extra cs
theorem okClasses_inv {rows first : Int} {s : List Bool} {c : List Int} {cs : List (List Int)} (h : okClasses rows first s (c :: cs) = true) : ∃ a b r s', c = a :: b :: r ∧ first < a ∧ okClass rows (-1) s c = some s' ∧ okClasses rows a s' cs = true := by
  match c, h with
  | [], h => simp [okClasses] at h
  | [_], h => simp [okClasses] at h
  | a :: b :: r, h =>
    simp only [okClasses] at h
    split at h
    · cases h
    · rename_i h1
      cases ho : okClass rows (-1) s (a :: b :: r) with
      | none => rw [ho] at h; cases h
      | some s' => rw [ho] at h; exact ⟨a, b, r, s', rfl, by omega, rfl, h⟩
theorem extra_free {rows : Int} : ∀ {cs : List (List Int)} {first : Int} {s : List Bool}, (s.length : Int) = rows → okClasses rows first s cs = true → 0 ≤ extra cs ∧ extra cs ≤ free s
  | [], _, _, _, _ => by simp [extra]
  | c :: cs, first, s, hs, h => by
    obtain ⟨a, b, r, s', hc, h1, h2, h3⟩ := okClasses_inv h
    have h4 := okClass_free (by omega) hs h2
    have h5 := extra_free (by rw [okClass_len h2]; exact hs) h3
    subst hc
    simp only [extra, List.length_cons] at h4 ⊢
    omega
def rankF (p : api_Partition) : Int := if validF p then p.Rows - extra p.Classes else 0
theorem valid_ok {p : api_Partition} (h : validF p = true) : 0 ≤ p.Rows ∧ p.Rows ≤ 1000 ∧ okClasses p.Rows (-1) (List.replicate p.Rows.toNat false) p.Classes = true := by
  unfold validF at h
  split at h
  · cases h
  · split at h
    · cases h
    · exact ⟨by omega, by omega, h⟩
def iota (n : Nat) : List Int := (List.range n).map fun (k : Nat) => (k : Int)
theorem iota_get {n k : Nat} (h : k < n) : (iota n)[k]? = some (k : Int) := by simp [iota, h]
def labClass (a : Int) : List Int → List Int → List Int
  | l, [] => l
  | l, i :: r => labClass a (lset l i a) r
def labCl : List Int → List (List Int) → List Int
  | l, [] => l
  | l, [] :: cs => labCl l cs
  | l, (a :: r) :: cs => labCl (labClass a l (a :: r)) cs
def labF (p : api_Partition) : List Int := labCl (iota p.Rows.toNat) p.Classes
theorem labClass_len {a : Int} : ∀ {l r : List Int}, (labClass a l r).length = l.length
  | _, [] => rfl
  | l, i :: r => by simp only [labClass]; rw [labClass_len, lset_length]
theorem labCl_len : ∀ {l : List Int} {cs : List (List Int)}, (labCl l cs).length = l.length
  | _, [] => rfl
  | l, [] :: cs => by simp only [labCl]; exact labCl_len
  | l, (a :: r) :: cs => by simp only [labCl]; rw [labCl_len, labClass_len]
theorem iota_len {n : Nat} : (iota n).length = n := by simp [iota]
namespace drossref08_Labels
theorem fill {x0 : api_Partition} {φ : List Int → Prop} (h0 : 0 ≤ x0.Rows) (h1 : x0.Rows ≤ 1000) (hL : L2 x0 (iota x0.Rows.toNat) 0 φ) : ∀ (m k : Nat), k + m = x0.Rows.toNat → L1 x0 (iota k ++ List.replicate m 0) k φ
  | 0, k, hk => by
    apply L1_step
    rw [if_neg (by omega)]
    have : k = x0.Rows.toNat := by omega
    simpa [this] using hL
  | m + 1, k, hk => by
    apply L1_step
    rw [if_pos (by omega)]
    have hl : (iota k).length = k := iota_len
    refine ⟨0, ?_, ?_⟩
    · rw [lget_nat, List.getElem?_append_right (by omega)]
      simp [hl]
    · rw [wrap_succ (by omega)]
      have : lset (iota k ++ List.replicate (m + 1) 0) (k : Int) (k : Int) = iota (k + 1) ++ List.replicate m 0 := by
        unfold lset
        rw [Int.toNat_natCast, List.set_append_right _ _ (by omega), hl, Nat.sub_self, List.replicate_succ, List.set_cons_zero]
        simp [iota, List.range_succ]
      rw [this]
      exact fill h0 h1 hL m (k + 1) (by omega)
theorem inner {x0 : api_Partition} {φ : List Int → Prop} {c : List Int} {a : Int} {j : Nat} (hc : x0.Classes[j]? = some c) (ha : c[0]? = some a) (hb : c.length < Big) (hj : j + 1 < Big) : ∀ (r : List Int) (k : Nat) (l : List Int) (b : Int) (s s' : List Bool), c.drop k = r → -1 ≤ b → l.length = s.length → (s.length : Int) = x0.Rows → okClass x0.Rows b s r = some s' →
    L2 x0 (labClass a l r) ((j + 1 : Nat) : Int) φ → L3 x0 l j k φ
  | [], k, l, b, s, s', hd, hbb, hl, hs, ho, h => by
    apply L3_step
    refine ⟨c, by rw [lget_nat]; exact hc, ?_⟩
    have := drop_ge hd
    rw [if_neg (by omega), wrap_succ hj]
    exact h
  | i :: r, k, l, b, s, s', hd, hbb, hl, hs, ho, h => by
    obtain ⟨h1, h2, h3, h4⟩ := okClass_inv hbb hs ho
    apply L3_step
    have hk := drop_lt hd
    refine ⟨c, by rw [lget_nat]; exact hc, ?_⟩
    rw [if_pos (by omega)]
    obtain ⟨x, hx⟩ := lget_lt (l := l) (i := i) (by omega) (by omega)
    refine ⟨i, lget_drop hd, a, by have := lget_nat (l := c) (k := 0); rw [ha] at this; exact this, x, hx, ?_⟩
    rw [wrap_succ (by unfold Big at hb; omega)]
    exact inner hc ha hb hj r (k + 1) _ i _ s' (drop_next hd) (by omega) (by rw [lset_length, lset_length]; exact hl) (by rw [lset_length]; exact hs) h4 h
theorem outer {x0 : api_Partition} {φ : List Int → Prop} (hb : Small x0) : ∀ (cs : List (List Int)) (k : Nat) (l : List Int) (first : Int) (s : List Bool), x0.Classes.drop k = cs → l.length = s.length → (s.length : Int) = x0.Rows → okClasses x0.Rows first s cs = true →
    φ (labCl l cs) → L2 x0 l k φ
  | [], k, l, first, s, hd, hl, hs, ho, h => by
    apply L2_step
    have := drop_ge hd
    rw [if_neg (by omega)]
    exact h
  | c :: cs, k, l, first, s, hd, hl, hs, ho, h => by
    obtain ⟨a, b, t, s', hc, h4, h5, h6⟩ := okClasses_inv ho
    apply L2_step
    have hk := drop_lt hd
    rw [if_pos (by omega)]
    have hcg := drop_get hd
    subst hc
    refine inner hcg (a := a) rfl (hb.2 _ (List.mem_of_getElem? hcg)) (by have := hb.1; omega) (a :: b :: t) 0 l (-1) s s' rfl (by omega) hl hs h5 ?_
    exact outer hb cs (k + 1) _ a s' (drop_next hd) (by rw [labClass_len, okClass_len h5]; exact hl) (by rw [okClass_len h5]; exact hs) h6 h
theorem spec {x0 : api_Partition} (hb : Small x0) (hv : validF x0 = true) : C x0 (labF x0) := by
  obtain ⟨v1, v2, v3⟩ := valid_ok hv
  obtain ⟨r, h1, h2⟩ := enter x0 (fun r => r = labF x0) (by
    refine ⟨by omega, ?_⟩
    have := fill (φ := fun r => r = labF x0) v1 v2 (outer hb x0.Classes 0 _ (-1) (List.replicate x0.Rows.toNat false) rfl (by rw [iota_len]; simp) (by simp; omega) v3 rfl) x0.Rows.toNat 0 (by omega)
    simpa [iota] using this)
  rw [← h1]; exact h2
end drossref08_Labels
def cnt : Nat → List Int → Int
  | _, [] => 0
  | k, x :: l => (if x = (k : Int) then 1 else 0) + cnt (k + 1) l
theorem cnt_set {a : Int} : ∀ {l : List Int} {n k : Nat}, l[n]? = some ((k + n : Nat) : Int) → cnt k (l.set n a) = cnt k l - (if a = ((k + n : Nat) : Int) then 0 else 1)
  | [], n, k, h => by simp at h
  | x :: l, 0, k, h => by
    simp only [List.getElem?_cons_zero, Nat.add_zero, Option.some.injEq] at h
    simp only [List.set_cons_zero, cnt, Nat.add_zero, h, if_true]
    split <;> omega
  | x :: l, n + 1, k, h => by
    simp only [List.getElem?_cons_succ] at h
    have := cnt_set (a := a) (l := l) (n := n) (k := k + 1) (by rw [h]; congr 2; omega)
    have e : k + 1 + n = k + (n + 1) := by omega
    rw [e] at this
    simp only [List.set_cons_succ, cnt, this]; omega
def SelfIn (l : List Int) (s : List Bool) : Prop := l.length = s.length ∧ ∀ n : Nat, s[n]? = some false → l[n]? = some (n : Int)
theorem SelfIn.step {l : List Int} {s : List Bool} {i a : Int} (h : SelfIn l s) (hi : lget s i = some false) : SelfIn (lset l i a) (lset s i true) ∧ cnt 0 (lset l i a) = cnt 0 l - (if a = i then 0 else 1) := by
  obtain ⟨h0, h1⟩ := lget_some hi
  have h2 := h.2 _ h1
  refine ⟨⟨by rw [lset_length, lset_length]; exact h.1, fun n hn => ?_⟩, ?_⟩
  · unfold lset at hn ⊢
    by_cases he : i.toNat = n
    · subst he
      rw [List.getElem?_set_self (List.getElem?_eq_some_iff.1 h1).1] at hn
      cases hn
    · rw [List.getElem?_set_ne he] at hn ⊢
      exact h.2 n hn
  · have := cnt_set (a := a) (l := l) (n := i.toNat) (k := 0) (by rw [Nat.zero_add]; exact h2)
    unfold lset
    rw [this, Nat.zero_add, Int.toNat_of_nonneg h0]
theorem lab_cnt {rows a : Int} : ∀ {r : List Int} {b : Int} {l : List Int} {s s' : List Bool}, -1 ≤ b → a ≤ b → (s.length : Int) = rows → SelfIn l s → okClass rows b s r = some s' → SelfIn (labClass a l r) s' ∧ cnt 0 (labClass a l r) = cnt 0 l - r.length
  | [], b, l, s, s', hb, hab, hs, hl, h => by
    simp only [okClass, Option.some.injEq] at h
    subst h
    exact ⟨hl, by simp [labClass]⟩
  | i :: r, b, l, s, s', hb, hab, hs, hl, h => by
    obtain ⟨h1, h2, h3, h4⟩ := okClass_inv hb hs h
    obtain ⟨k1, k2⟩ := hl.step (a := a) h3
    obtain ⟨m1, m2⟩ := lab_cnt (a := a) (b := i) (by omega) (by omega) (by rw [lset_length]; exact hs) k1 h4
    refine ⟨m1, ?_⟩
    simp only [labClass, List.length_cons]
    rw [m2, k2, if_neg (by omega)]
    omega
theorem labCl_cnt {rows : Int} : ∀ {cs : List (List Int)} {first : Int} {l : List Int} {s : List Bool}, (s.length : Int) = rows → SelfIn l s → okClasses rows first s cs = true → cnt 0 (labCl l cs) = cnt 0 l - extra cs
  | [], first, l, s, hs, hl, h => by simp [labCl, extra]
  | c :: cs, first, l, s, hs, hl, h => by
    obtain ⟨a, b, t, s', hc, h4, h5, h6⟩ := okClasses_inv h
    subst hc
    obtain ⟨h1, h2, h3, h7⟩ := okClass_inv (by omega) hs h5
    obtain ⟨k1, k2⟩ := hl.step (a := a) h3
    obtain ⟨m1, m2⟩ := lab_cnt (a := a) (b := a) (by omega) (by omega) (by rw [lset_length]; exact hs) k1 h7
    have := labCl_cnt (by rw [okClass_len h5]; exact hs) m1 h6
    have e : labCl l ((a :: b :: t) :: cs) = labCl (labClass a (lset l a a) (b :: t)) cs := rfl
    rw [e, this, m2, k2, if_pos rfl]
    simp only [extra, List.length_cons]; omega
theorem cnt_iota : ∀ (n k : Nat) , cnt k ((List.range' k n).map fun (j : Nat) => (j : Int)) = n
  | 0, k => by simp [cnt]
  | n + 1, k => by
    simp only [List.range'_succ, List.map_cons, cnt, if_true]
    rw [cnt_iota n (k + 1)]; omega
theorem labF_cnt {p : api_Partition} (hv : validF p = true) : cnt 0 (labF p) = p.Rows - extra p.Classes := by
  obtain ⟨v1, v2, v3⟩ := valid_ok hv
  unfold labF
  rw [labCl_cnt (rows := p.Rows) (s := List.replicate p.Rows.toNat false) (by simp; omega) ⟨by rw [iota_len]; simp, fun n hn => ?_⟩ v3]
  · have := cnt_iota p.Rows.toNat 0
    rw [← List.range_eq_range'] at this
    unfold iota
    rw [this]; omega
  · exact iota_get (by have := (List.getElem?_eq_some_iff.1 hn).1; simpa using this)
end Go.Own

namespace Go.Own
def marks (s : List Bool) (r : List Int) : List Bool := r.foldl (fun s i => lset s i true) s
theorem marks_len : ∀ {r : List Int} {s : List Bool}, (marks s r).length = s.length
  | [], _ => rfl
  | i :: r, s => by
    show (marks (lset s i true) r).length = _
    rw [marks_len, lset_length]
theorem marks_get : ∀ {r : List Int} {s : List Bool} {j : Int}, (∀ i ∈ r, 0 ≤ i ∧ i < s.length) → 0 ≤ j → j < s.length → lget (marks s r) j = if j ∈ r then some true else lget s j
  | [], _, _, _, _, _ => by simp [marks]
  | i :: r, s, j, h, hj, hjs => by
    show lget (marks (lset s i true) r) j = _
    have hi := h i (by simp)
    rw [marks_get (fun k hk => by rw [lset_length]; exact h k (by simp [hk])) hj (by rw [lset_length]; exact hjs)]
    by_cases h1 : j ∈ r
    · simp [h1]
    · rw [if_neg h1, lget_lset hi.1 hj]
      by_cases h2 : i = j
      · subst h2; simp [hi.2]
      · rw [if_neg h2, if_neg]
        simp only [List.mem_cons, not_or]
        exact ⟨fun h => h2 h.symm, h1⟩
theorem okClass_iff {rows : Int} : ∀ {r : List Int} {b : Int} {s s' : List Bool}, -1 ≤ b → (s.length : Int) = rows → (okClass rows b s r = some s' ↔ (b :: r).Pairwise (· < ·) ∧ (∀ i ∈ r, i < rows ∧ lget s i = some false) ∧ s' = marks s r)
  | [], b, s, s', hb, hs => by simp [okClass, marks, eq_comm]
  | i :: r, b, s, s', hb, hs => by
    constructor
    · intro h
      obtain ⟨h1, h2, h3, h4⟩ := okClass_inv hb hs h
      obtain ⟨k1, k2, k3⟩ := (okClass_iff (by omega) (by rw [lset_length]; exact hs)).1 h4
      have k4 := List.pairwise_cons.1 k1
      refine ⟨List.pairwise_cons.2 ⟨fun j hj => ?_, k1⟩, fun j hj => ?_, k3⟩
      · rcases List.mem_cons.1 hj with rfl | hj
        · exact h1
        · have := k4.1 j hj; omega
      · rcases List.mem_cons.1 hj with rfl | hj
        · exact ⟨h2, h3⟩
        · have h5 := k4.1 j hj
          have h6 := k2 j hj
          rw [lget_lset (by omega) (by omega), if_neg (by omega)] at h6
          exact h6
    · rintro ⟨h1, h2, h3⟩
      have k1 := List.pairwise_cons.1 h1
      have k2 := List.pairwise_cons.1 k1.2
      have hbi := k1.1 i (by simp)
      have hi := h2 i (by simp)
      simp only [okClass]
      rw [if_neg (by
        rintro (h | h | h)
        · omega
        · omega
        · rw [hi.2] at h; cases h)]
      refine (okClass_iff (by omega) (by rw [lset_length]; exact hs)).2 ⟨k1.2, fun j hj => ?_, h3⟩
      have h5 := k2.1 j hj
      rw [lget_lset (by omega) (by omega), if_neg (by omega)]
      exact h2 j (by simp [hj])
structure CP (rows : Int) (cs : List (List Int)) : Prop where
  two : ∀ c ∈ cs, 2 ≤ c.length
  inc : ∀ c ∈ cs, c.Pairwise (· < ·)
  inn : ∀ c ∈ cs, ∀ i ∈ c, 0 ≤ i ∧ i < rows
  heads : cs.Pairwise fun c d => c.headD 0 < d.headD 0
  disj : cs.Pairwise fun c d => ∀ i ∈ c, i ∉ d
theorem okClasses_iff {rows : Int} : ∀ {cs : List (List Int)} {first : Int} {s : List Bool}, -1 ≤ first → (s.length : Int) = rows → (okClasses rows first s cs = true ↔ CP rows cs ∧ (∀ c ∈ cs, first < c.headD 0) ∧ ∀ c ∈ cs, ∀ i ∈ c, lget s i = some false)
  | [], first, s, hf, hs => by
    simp only [okClasses, true_iff]
    exact ⟨⟨by simp, by simp, by simp, by simp, by simp⟩, by simp, by simp⟩
  | c :: cs, first, s, hf, hs => by
    constructor
    · intro h
      obtain ⟨a, b, t, s', hc, h1, h2, h3⟩ := okClasses_inv h
      obtain ⟨m1, m2, m3⟩ := (okClass_iff (by omega) hs).1 h2
      have hin : ∀ i ∈ c, 0 ≤ i ∧ i < rows := fun i hi => by
        have := (List.pairwise_cons.1 m1).1 i hi
        exact ⟨by omega, (m2 i hi).1⟩
      have hs' : (s'.length : Int) = rows := by rw [m3, marks_len]; exact hs
      have ha : 0 ≤ a := (hin a (by rw [hc]; simp)).1
      obtain ⟨n1, n2, n3⟩ := (okClasses_iff (by omega) hs').1 h3
      have key : ∀ d ∈ cs, ∀ i ∈ d, i ∉ c ∧ lget s i = some false := fun d hd i hi => by
        have h5 := n3 d hd i hi
        have h6 := n1.inn d hd i hi
        rw [m3, marks_get (fun k hk => by have := hin k hk; omega) h6.1 (by omega)] at h5
        by_cases hic : i ∈ c
        · rw [if_pos hic] at h5; cases h5
        · rw [if_neg hic] at h5; exact ⟨hic, h5⟩
      refine ⟨⟨?_, ?_, ?_, ?_, ?_⟩, ?_, ?_⟩
      · intro d hd
        rcases List.mem_cons.1 hd with rfl | hd
        · rw [hc]; simp
        · exact n1.two d hd
      · intro d hd
        rcases List.mem_cons.1 hd with rfl | hd
        · exact (List.pairwise_cons.1 m1).2
        · exact n1.inc d hd
      · intro d hd
        rcases List.mem_cons.1 hd with rfl | hd
        · exact hin
        · exact n1.inn d hd
      · refine List.pairwise_cons.2 ⟨fun d hd => ?_, n1.heads⟩
        have := n2 d hd
        rw [hc]; exact this
      · exact List.pairwise_cons.2 ⟨fun d hd i hi hid => (key d hd i hid).1 hi, n1.disj⟩
      · intro d hd
        rcases List.mem_cons.1 hd with rfl | hd
        · rw [hc]; exact h1
        · have := n2 d hd; omega
      · intro d hd i hi
        rcases List.mem_cons.1 hd with rfl | hd
        · exact (m2 i hi).2
        · exact (key d hd i hi).2
    · rintro ⟨⟨p1, p2, p3, p4, p5⟩, q1, q2⟩
      match c, p1 c (by simp), p1, p2, p3, p4, p5, q1, q2 with
      | a :: b :: t, _, p1, p2, p3, p4, p5, q1, q2 =>
        have ho : okClass rows (-1) s (a :: b :: t) = some (marks s (a :: b :: t)) := (okClass_iff (by omega) hs).2 ⟨List.pairwise_cons.2 ⟨fun i hi => by have := (p3 _ (by simp) i hi).1; omega, p2 _ (by simp)⟩, fun i hi => ⟨(p3 _ (by simp) i hi).2, q2 _ (by simp) i hi⟩, rfl⟩
        have ha := p3 (a :: b :: t) (by simp) a (by simp)
        simp only [okClasses]
        rw [if_neg (by have := q1 (a :: b :: t) (by simp); simp at this; omega), ho]
        refine (okClasses_iff (by omega) (by rw [marks_len]; exact hs)).2 ⟨⟨fun d hd => p1 d (by simp [hd]), fun d hd => p2 d (by simp [hd]), fun d hd => p3 d (by simp [hd]), (List.pairwise_cons.1 p4).2, (List.pairwise_cons.1 p5).2⟩, fun d hd => ?_, fun d hd i hi => ?_⟩
        · exact (List.pairwise_cons.1 p4).1 d hd
        · have h6 := p3 d (by simp [hd]) i hi
          rw [marks_get (fun k hk => by have := p3 (a :: b :: t) (by simp) k hk; omega) h6.1 (by omega), if_neg]
          · exact q2 d (by simp [hd]) i hi
          · exact fun hic => (List.pairwise_cons.1 p5).1 d hd i hic hi
theorem valid_iff {p : api_Partition} : validF p = true ↔ 0 ≤ p.Rows ∧ p.Rows ≤ 1000 ∧ CP p.Rows p.Classes := by
  constructor
  · intro h
    obtain ⟨h1, h2, h3⟩ := valid_ok h
    exact ⟨h1, h2, ((okClasses_iff (by omega) (by simp; omega)).1 h3).1⟩
  · rintro ⟨h1, h2, h3⟩
    unfold validF
    rw [if_neg (by omega), if_neg (by omega)]
    refine (okClasses_iff (by omega) (by simp; omega)).2 ⟨h3, fun c hc => ?_, fun c hc i hi => ?_⟩
    · have h4 := h3.two c hc
      match c, h4, hc with
      | a :: t, _, hc => have := h3.inn _ hc a (by simp); simp; omega
    · have := h3.inn c hc i hi
      simp only [lget, if_pos this.1, List.getElem?_replicate]
      rw [if_pos (by omega)]
def Same (p : api_Partition) (i j : Int) : Prop := i = j ∨ ∃ c ∈ p.Classes, i ∈ c ∧ j ∈ c
theorem CP.uniq {rows : Int} {cs : List (List Int)} (h : CP rows cs) {c d : List Int} (hc : c ∈ cs) (hd : d ∈ cs) {i : Int} (hi : i ∈ c) (hj : i ∈ d) : c = d := by
  rcases List.mem_iff_getElem.1 hc with ⟨m, hm, rfl⟩
  rcases List.mem_iff_getElem.1 hd with ⟨n, hn, rfl⟩
  rcases Nat.lt_trichotomy m n with h1 | h1 | h1
  · exact absurd hj (List.pairwise_iff_getElem.1 h.disj m n hm hn h1 i hi)
  · subst h1; rfl
  · exact absurd hi (List.pairwise_iff_getElem.1 h.disj n m hn hm h1 i hj)
theorem labClass_get {a : Int} : ∀ {r : List Int} {l : List Int} {j : Int}, (∀ i ∈ r, 0 ≤ i ∧ i < l.length) → 0 ≤ j → j < l.length → lget (labClass a l r) j = if j ∈ r then some a else lget l j
  | [], _, _, _, _, _ => by simp [labClass]
  | i :: r, l, j, h, hj, hjl => by
    have hi := h i (by simp)
    simp only [labClass]
    rw [labClass_get (fun k hk => by rw [lset_length]; exact h k (by simp [hk])) hj (by rw [lset_length]; exact hjl)]
    by_cases h1 : j ∈ r
    · simp [h1]
    · rw [if_neg h1, lget_lset hi.1 hj]
      by_cases h2 : i = j
      · subst h2; simp [hi.2]
      · rw [if_neg h2, if_neg]
        simp only [List.mem_cons, not_or]
        exact ⟨fun h => h2 h.symm, h1⟩
def layAll : List (Int × List Int) → List Int → List Int
  | [], l => l
  | (a, c) :: r, l => layAll r (labClass a l c)
theorem layAll_len : ∀ {r : List (Int × List Int)} {l : List Int}, (layAll r l).length = l.length
  | [], _ => rfl
  | (a, c) :: r, l => by simp only [layAll]; rw [layAll_len, labClass_len]
theorem layAll_out : ∀ {r : List (Int × List Int)} {l : List Int} {j : Int}, (∀ x ∈ r, ∀ i ∈ x.2, 0 ≤ i ∧ i < l.length) → 0 ≤ j → j < l.length → (∀ x ∈ r, j ∉ x.2) → lget (layAll r l) j = lget l j
  | [], _, _, _, _, _, _ => rfl
  | (a, c) :: r, l, j, h, hj, hjl, hn => by
    simp only [layAll]
    rw [layAll_out (fun x hx => by rw [labClass_len]; exact h x (by simp [hx])) hj (by rw [labClass_len]; exact hjl) (fun x hx => hn x (by simp [hx])), labClass_get (h (a, c) (by simp)) hj hjl, if_neg (hn (a, c) (by simp))]
theorem layAll_in : ∀ {r : List (Int × List Int)} {l : List Int} {j : Int} {x : Int × List Int}, (∀ x ∈ r, ∀ i ∈ x.2, 0 ≤ i ∧ i < l.length) → 0 ≤ j → j < l.length → r.Pairwise (fun x y => ∀ i ∈ x.2, i ∉ y.2) → x ∈ r → j ∈ x.2 → lget (layAll r l) j = some x.1
  | [], _, _, _, _, _, _, _, hx, _ => by cases hx
  | (a, c) :: r, l, j, x, h, hj, hjl, hp, hx, hjx => by
    simp only [layAll]
    have hp' := List.pairwise_cons.1 hp
    rcases List.mem_cons.1 hx with rfl | hx
    · rw [layAll_out (fun x hx => by rw [labClass_len]; exact h x (by simp [hx])) hj (by rw [labClass_len]; exact hjl) (fun y hy => hp'.1 y hy j hjx), labClass_get (h (a, c) (by simp)) hj hjl, if_pos hjx]
    · exact layAll_in (fun x hx => by rw [labClass_len]; exact h x (by simp [hx])) hj (by rw [labClass_len]; exact hjl) hp'.2 hx hjx
theorem labCl_lay : ∀ {cs : List (List Int)} {l : List Int}, (∀ c ∈ cs, 2 ≤ c.length) → labCl l cs = layAll (cs.map fun c => (c.headD 0, c)) l
  | [], _, _ => rfl
  | [] :: cs, l, h => by have := h [] (by simp); simp at this
  | (a :: r) :: cs, l, h => by
    simp only [labCl, List.map_cons, List.headD_cons, layAll]
    exact labCl_lay fun c hc => h c (by simp [hc])
theorem labF_out {p : api_Partition} (hv : validF p = true) {i : Int} (h0 : 0 ≤ i) (h1 : i < p.Rows) (hn : ∀ c ∈ p.Classes, i ∉ c) : lget (labF p) i = some i := by
  obtain ⟨v1, v2, v3⟩ := valid_iff.1 hv
  unfold labF
  rw [labCl_lay v3.two, layAll_out (fun x hx => ?_) h0 (by rw [iota_len]; omega) (fun x hx => ?_)]
  · simp only [lget, if_pos h0]
    rw [iota_get (by omega)]
    congr 1; omega
  · obtain ⟨c, hc, rfl⟩ := List.mem_map.1 hx
    intro j hj
    have := v3.inn c hc j hj
    rw [iota_len]; omega
  · obtain ⟨c, hc, rfl⟩ := List.mem_map.1 hx
    exact hn c hc
theorem labF_in {p : api_Partition} (hv : validF p = true) {i : Int} {c : List Int} (hc : c ∈ p.Classes) (hi : i ∈ c) : lget (labF p) i = some (c.headD 0) := by
  obtain ⟨v1, v2, v3⟩ := valid_iff.1 hv
  have hin := v3.inn c hc i hi
  unfold labF
  rw [labCl_lay v3.two]
  refine layAll_in (x := (c.headD 0, c)) (fun x hx => ?_) hin.1 (by rw [iota_len]; omega) ?_ (List.mem_map.2 ⟨c, hc, rfl⟩) hi
  · obtain ⟨c, hc, rfl⟩ := List.mem_map.1 hx
    intro j hj
    have := v3.inn c hc j hj
    rw [iota_len]; omega
  · exact List.pairwise_map.2 v3.disj
theorem headD_mem {c : List Int} (h : 2 ≤ c.length) : c.headD 0 ∈ c := by
  match c, h with
  | a :: t, _ => simp
theorem labF_len {p : api_Partition} : (labF p).length = p.Rows.toNat := by unfold labF; rw [labCl_len, iota_len]
theorem labF_same {p : api_Partition} (hv : validF p = true) {i j : Int} (hi : 0 ≤ i ∧ i < p.Rows) (hj : 0 ≤ j ∧ j < p.Rows) : lget (labF p) i = lget (labF p) j ↔ Same p i j := by
  obtain ⟨v1, v2, v3⟩ := valid_iff.1 hv
  constructor
  · intro h
    by_cases hic : ∃ c ∈ p.Classes, i ∈ c
    · obtain ⟨c, hc, hic⟩ := hic
      rw [labF_in hv hc hic] at h
      by_cases hjc : ∃ d ∈ p.Classes, j ∈ d
      · obtain ⟨d, hd, hjd⟩ := hjc
        rw [labF_in hv hd hjd] at h
        have h2 := Option.some.inj h
        have h3 := headD_mem (v3.two c hc)
        rw [h2] at h3
        have := v3.uniq hc hd h3 (headD_mem (v3.two d hd))
        subst this
        exact .inr ⟨c, hc, hic, hjd⟩
      · rw [labF_out hv hj.1 hj.2 (fun c hc hjc' => hjc ⟨c, hc, hjc'⟩)] at h
        have h2 := Option.some.inj h
        exact absurd ⟨c, hc, by rw [← h2]; exact headD_mem (v3.two c hc)⟩ hjc
    · rw [labF_out hv hi.1 hi.2 (fun c hc hic' => hic ⟨c, hc, hic'⟩)] at h
      by_cases hjc : ∃ d ∈ p.Classes, j ∈ d
      · obtain ⟨d, hd, hjd⟩ := hjc
        rw [labF_in hv hd hjd] at h
        have h2 := Option.some.inj h
        exact absurd ⟨d, hd, by rw [h2]; exact headD_mem (v3.two d hd)⟩ hic
      · rw [labF_out hv hj.1 hj.2 (fun c hc hjc' => hjc ⟨c, hc, hjc'⟩)] at h
        exact .inl (Option.some.inj h)
  · rintro (rfl | ⟨c, hc, h1, h2⟩)
    · rfl
    · rw [labF_in hv hc h1, labF_in hv hc h2]
end Go.Own

namespace Go.Own
open Go.Proofs D
set_option maxRecDepth 100000
set_option maxHeartbeats 4000000
namespace partition_labels
noncomputable def B : Code := (Tryd.f41.body).getD .skip
def W : List Nat := [0, 1, 2, 3, 4, 5, 6, 8, 13, 14, 15, 24, 25, 26, 27, 31, 32, 33, 34]
def res (r : List Int) : D × List D := (.own (r.map (eI .i64)), [])
def C (x0 : api_Partition) (r : List Int) : Prop := Ret env 41 [.agg [.lit (.int .i64 x0.Rows), .sl (x0.Classes.map (eSl (eI .i64)))]] (res r).1 (res r).2
def L1 (x0 : api_Partition) (y3_L1 : List Int) (y14_L1 : Int) (φ : List Int → Prop) : Prop := Pt env 41 W B [1, 1, 0, 1, 0] [(0, .agg [.lit (.int .i64 x0.Rows), .sl (x0.Classes.map (eSl (eI .i64)))]), (1, .box [.lit (.int .i64 x0.Rows), .sl (x0.Classes.map (eSl (eI .i64)))]), (3, .own (y3_L1.map (eI .i64))), (13, .lit (.int .i64 (((List.replicate x0.Rows.toNat (0 : Int)).length : Int)))), (14, .lit (.int .i64 y14_L1))] (Lv env 41 Tryd.f41 1 res φ)
def L2 (x0 : api_Partition) (y3_L1 : List Int) (y26_L2 : Int) (φ : List Int → Prop) : Prop := Pt env 41 W B [1, 1, 1, 0, 1, 0] [(0, .agg [.lit (.int .i64 x0.Rows), .sl (x0.Classes.map (eSl (eI .i64)))]), (1, .box [.lit (.int .i64 x0.Rows), .sl (x0.Classes.map (eSl (eI .i64)))]), (3, .own (y3_L1.map (eI .i64))), (24, .sl (x0.Classes.map (eSl (eI .i64)))), (25, .lit (.int .i64 ((x0.Classes.length : Int)))), (26, .lit (.int .i64 y26_L2))] (Lv env 41 Tryd.f41 1 res φ)
def L3 (x0 : api_Partition) (y3_L1 : List Int) (y5_L3 : Int) (a4 : List Int) (y26_L3 : Int) (y33_L3 : Int) (φ : List Int → Prop) : Prop := Pt env 41 W B [1, 1, 1, 0, 1, 0, 0, 1, 1, 0, 0, 1, 1, 0] [(0, .agg [.lit (.int .i64 x0.Rows), .sl (x0.Classes.map (eSl (eI .i64)))]), (1, .box [.lit (.int .i64 x0.Rows), .sl (x0.Classes.map (eSl (eI .i64)))]), (3, .own (y3_L1.map (eI .i64))), (5, .lit (.int .i64 y5_L3)), (6, .sl (a4.map (eI .i64))), (24, .sl (x0.Classes.map (eSl (eI .i64)))), (25, .lit (.int .i64 ((x0.Classes.length : Int)))), (26, .lit (.int .i64 y26_L3)), (31, .sl (a4.map (eI .i64))), (32, .lit (.int .i64 ((a4.length : Int)))), (33, .lit (.int .i64 y33_L3))] (Lv env 41 Tryd.f41 1 res φ)
theorem L1_step (x0 : api_Partition) (y3_L1 : List Int) (y14_L1 : Int) (φ : List Int → Prop) (h :
    (if y14_L1 < ((List.replicate x0.Rows.toNat (0 : Int)).length : Int) then
      ∃ a2, lget y3_L1 y14_L1 = some a2 ∧
      partition_labels.L1 x0 ((lset y3_L1 y14_L1 (IntKind.wrap .i64 ((-1) - y14_L1)))) ((IntKind.wrap .i64 (y14_L1 + 1))) φ
    else
      partition_labels.L2 x0 y3_L1 0 φ)) : L1 x0 y3_L1 y14_L1 φ := by
  unfold L1
  refine Pt.loop (p' := [1, 1, 0, 1, 0, 0, 0]) (by kernel_rfl) (by kernel_rfl) ?_
  refine Pt.reg (by kernel_rfl) ?_
  refine AtO.bool (b := (decide (y14_L1 < ((List.replicate x0.Rows.toNat (0 : Int)).length : Int)))) (by kernel_rfl) (by kernel_rfl) (fun hc => ?_) (fun hc => ?_)
  · have h := ite_t h (of_decide_eq_true hc)
    refine AtO.go (p' := [1, 1, 0, 1, 0, 0, 1, 1, 0, 0, 0]) (F' := [(0, .agg [.lit (.int .i64 x0.Rows), .sl (x0.Classes.map (eSl (eI .i64)))]), (1, .box [.lit (.int .i64 x0.Rows), .sl (x0.Classes.map (eSl (eI .i64)))]), (3, .own (y3_L1.map (eI .i64))), (13, .lit (.int .i64 (((List.replicate x0.Rows.toNat (0 : Int)).length : Int)))), (14, .lit (.int .i64 y14_L1))]) 2 (by kernel_rfl) (by kernel_rfl) ?_
    refine Pt.reg (by kernel_rfl) ?_
    refine AtO.seg 2 (by kernel_rfl) ?_
    refine AtO.go (p' := [1, 1, 0, 1, 0, 0, 1, 1, 0, 0, 1]) (F' := [(0, .agg [.lit (.int .i64 x0.Rows), .sl (x0.Classes.map (eSl (eI .i64)))]), (1, .box [.lit (.int .i64 x0.Rows), .sl (x0.Classes.map (eSl (eI .i64)))]), (3, .own (y3_L1.map (eI .i64))), (4, .lit (.int .i64 y14_L1)), (13, .lit (.int .i64 (((List.replicate x0.Rows.toNat (0 : Int)).length : Int)))), (14, .lit (.int .i64 y14_L1))]) 0 (by kernel_rfl) (by kernel_rfl) ?_
    refine Pt.reg (by kernel_rfl) ?_
    obtain ⟨a2, h3, h⟩ := h
    refine AtO.seg 4 (by kernel_rfl) ?_
    refine AtO.val (by kernel_rfl) (val_idx_ow (s := 3) (ps := []) (t := 38) (x := (.tmp 17)) (ix := (.tmp 18)) (et := 3) (k := 1) (e := (eI .i64)) (l := y3_L1) (i := y14_L1) (q := .i64) (a := a2) (by kernel_rfl) (by kernel_rfl) (by kernel_rfl) (by kernel_rfl) (by kernel_rfl) (by kernel_rfl) h3 (by kernel_rfl)) ?_
    refine AtO.op (by kernel_rfl) (store1 (t := 3) (x := (.tmp 21)) (y := (.tmp 20)) (s := 3) (ps := []) (n := (y14_L1.toNat)) (c := 0) (e := (eI .i64)) (l := y3_L1) (a := a2) (b := (IntKind.wrap .i64 ((-1) - y14_L1))) (k := 1) (d := .lit (.int .i64 ((IntKind.wrap .i64 ((-1) - y14_L1))))) (by kernel_rfl) (by kernel_rfl) (by kernel_rfl) (by kernel_rfl) (lget_some h3).2 (by kernel_rfl) (by kernel_rfl) (by kernel_rfl) (by kernel_rfl) (by kernel_rfl) (setG_eq (by kernel_rfl))) ?_
    refine AtO.go (p' := [1, 1, 0, 1, 0, 0, 1, 1, 1]) (F' := [(0, .agg [.lit (.int .i64 x0.Rows), .sl (x0.Classes.map (eSl (eI .i64)))]), (1, .box [.lit (.int .i64 x0.Rows), .sl (x0.Classes.map (eSl (eI .i64)))]), (3, .own (((lset y3_L1 y14_L1 (IntKind.wrap .i64 ((-1) - y14_L1)))).map (eI .i64))), (13, .lit (.int .i64 (((List.replicate x0.Rows.toNat (0 : Int)).length : Int)))), (14, .lit (.int .i64 y14_L1))]) 0 (by kernel_rfl) (by kernel_rfl) ?_
    refine Pt.reg (by kernel_rfl) ?_
    refine AtO.seg 2 (by kernel_rfl) ?_
    refine AtO.go (p' := [1, 1, 0, 1, 0]) (F' := [(0, .agg [.lit (.int .i64 x0.Rows), .sl (x0.Classes.map (eSl (eI .i64)))]), (1, .box [.lit (.int .i64 x0.Rows), .sl (x0.Classes.map (eSl (eI .i64)))]), (3, .own (((lset y3_L1 y14_L1 (IntKind.wrap .i64 ((-1) - y14_L1)))).map (eI .i64))), (13, .lit (.int .i64 (((List.replicate x0.Rows.toNat (0 : Int)).length : Int)))), (14, .lit (.int .i64 ((IntKind.wrap .i64 (y14_L1 + 1)))))]) 0 (by kernel_rfl) (by kernel_rfl) ?_
    exact h
  · have h := ite_f h (of_decide_eq_false hc)
    refine AtO.go (p' := [1, 1, 1, 0, 0]) (F' := [(0, .agg [.lit (.int .i64 x0.Rows), .sl (x0.Classes.map (eSl (eI .i64)))]), (1, .box [.lit (.int .i64 x0.Rows), .sl (x0.Classes.map (eSl (eI .i64)))]), (3, .own (y3_L1.map (eI .i64)))]) 2 (by kernel_rfl) (by kernel_rfl) ?_
    refine Pt.reg (by kernel_rfl) ?_
    refine AtO.seg 2 (by kernel_rfl) ?_
    refine AtO.val (by kernel_rfl) (val_len (x := (.tmp 24)) (t := 29) (et := 38) (d := .sl (x0.Classes.map (eSl (eI .i64)))) (e := (eSl (eI .i64))) (l := x0.Classes) (by kernel_rfl) (by kernel_rfl) elemsOf_sl (by kernel_rfl)) ?_
    refine AtO.seg 1 (by kernel_rfl) ?_
    refine AtO.go (p' := [1, 1, 1, 0, 1, 0]) (F' := [(0, .agg [.lit (.int .i64 x0.Rows), .sl (x0.Classes.map (eSl (eI .i64)))]), (1, .box [.lit (.int .i64 x0.Rows), .sl (x0.Classes.map (eSl (eI .i64)))]), (3, .own (y3_L1.map (eI .i64))), (24, .sl (x0.Classes.map (eSl (eI .i64)))), (25, .lit (.int .i64 ((x0.Classes.length : Int)))), (26, .lit (.int .i64 0))]) 0 (by kernel_rfl) (by kernel_rfl) ?_
    exact h
theorem L2_step (x0 : api_Partition) (y3_L1 : List Int) (y26_L2 : Int) (φ : List Int → Prop) (h :
    (if y26_L2 < (x0.Classes.length : Int) then
      ∃ a4, lget x0.Classes y26_L2 = some a4 ∧
      partition_labels.L3 x0 y3_L1 y26_L2 a4 y26_L2 0 φ
    else
      φ y3_L1)) : L2 x0 y3_L1 y26_L2 φ := by
  unfold L2
  refine Pt.loop (p' := [1, 1, 1, 0, 1, 0, 0, 0]) (by kernel_rfl) (by kernel_rfl) ?_
  refine Pt.reg (by kernel_rfl) ?_
  refine AtO.bool (b := (decide (y26_L2 < (x0.Classes.length : Int)))) (by kernel_rfl) (by kernel_rfl) (fun hc => ?_) (fun hc => ?_)
  · have h := ite_t h (of_decide_eq_true hc)
    refine AtO.go (p' := [1, 1, 1, 0, 1, 0, 0, 1, 1, 0, 0, 0]) (F' := [(0, .agg [.lit (.int .i64 x0.Rows), .sl (x0.Classes.map (eSl (eI .i64)))]), (1, .box [.lit (.int .i64 x0.Rows), .sl (x0.Classes.map (eSl (eI .i64)))]), (3, .own (y3_L1.map (eI .i64))), (24, .sl (x0.Classes.map (eSl (eI .i64)))), (25, .lit (.int .i64 ((x0.Classes.length : Int)))), (26, .lit (.int .i64 y26_L2))]) 2 (by kernel_rfl) (by kernel_rfl) ?_
    refine Pt.reg (by kernel_rfl) ?_
    obtain ⟨a4, h5, h⟩ := h
    refine AtO.seg 1 (by kernel_rfl) ?_
    refine AtO.val (by kernel_rfl) (val_idx_sl (t := 29) (x := (.tmp 24)) (ix := (.tmp 26)) (et := 38) (k := 1) (e := (eSl (eI .i64))) (l := x0.Classes) (i := y26_L2) (q := .i64) (a := a4) (by kernel_rfl) (by kernel_rfl) (by kernel_rfl) (by kernel_rfl) (by kernel_rfl) h5 (by kernel_rfl)) ?_
    refine AtO.seg 3 (by kernel_rfl) ?_
    refine AtO.go (p' := [1, 1, 1, 0, 1, 0, 0, 1, 1, 0, 0, 1, 0]) (F' := [(0, .agg [.lit (.int .i64 x0.Rows), .sl (x0.Classes.map (eSl (eI .i64)))]), (1, .box [.lit (.int .i64 x0.Rows), .sl (x0.Classes.map (eSl (eI .i64)))]), (3, .own (y3_L1.map (eI .i64))), (5, .lit (.int .i64 y26_L2)), (6, .sl (a4.map (eI .i64))), (24, .sl (x0.Classes.map (eSl (eI .i64)))), (25, .lit (.int .i64 ((x0.Classes.length : Int)))), (26, .lit (.int .i64 y26_L2))]) 0 (by kernel_rfl) (by kernel_rfl) ?_
    refine Pt.reg (by kernel_rfl) ?_
    refine AtO.seg 1 (by kernel_rfl) ?_
    refine AtO.val (by kernel_rfl) (val_len (x := (.tmp 31)) (t := 38) (et := 3) (d := .sl (a4.map (eI .i64))) (e := (eI .i64)) (l := a4) (by kernel_rfl) (by kernel_rfl) elemsOf_sl (by kernel_rfl)) ?_
    refine AtO.seg 1 (by kernel_rfl) ?_
    refine AtO.go (p' := [1, 1, 1, 0, 1, 0, 0, 1, 1, 0, 0, 1, 1, 0]) (F' := [(0, .agg [.lit (.int .i64 x0.Rows), .sl (x0.Classes.map (eSl (eI .i64)))]), (1, .box [.lit (.int .i64 x0.Rows), .sl (x0.Classes.map (eSl (eI .i64)))]), (3, .own (y3_L1.map (eI .i64))), (5, .lit (.int .i64 y26_L2)), (6, .sl (a4.map (eI .i64))), (24, .sl (x0.Classes.map (eSl (eI .i64)))), (25, .lit (.int .i64 ((x0.Classes.length : Int)))), (26, .lit (.int .i64 y26_L2)), (31, .sl (a4.map (eI .i64))), (32, .lit (.int .i64 ((a4.length : Int)))), (33, .lit (.int .i64 0))]) 0 (by kernel_rfl) (by kernel_rfl) ?_
    exact h
  · have h := ite_f h (of_decide_eq_false hc)
    refine AtO.go (p' := [1, 1, 1, 1, 0]) (F' := [(3, .own (y3_L1.map (eI .i64)))]) 2 (by kernel_rfl) (by kernel_rfl) ?_
    refine Pt.reg (by kernel_rfl) ?_
    refine AtO.seg 2 (by kernel_rfl) ?_
    refine AtO.go (p' := [1, 1, 1, 1, 1]) (F' := [(2, .alias 3 []), (3, .own (y3_L1.map (eI .i64)))]) 0 (by kernel_rfl) (by kernel_rfl) ?_
    exact Pt.ret y3_L1 (by kernel_rfl) (by kernel_rfl) h
theorem L3_step (x0 : api_Partition) (y3_L1 : List Int) (y5_L3 : Int) (a4 : List Int) (y26_L3 : Int) (y33_L3 : Int) (φ : List Int → Prop) (h :
    (if y33_L3 < (a4.length : Int) then
      ∃ a6, lget a4 y33_L3 = some a6 ∧
      ∃ a8, lget y3_L1 a6 = some a8 ∧
      partition_labels.L3 x0 ((lset y3_L1 a6 y5_L3)) y5_L3 a4 y26_L3 ((IntKind.wrap .i64 (y33_L3 + 1))) φ
    else
      partition_labels.L2 x0 y3_L1 ((IntKind.wrap .i64 (y26_L3 + 1))) φ)) : L3 x0 y3_L1 y5_L3 a4 y26_L3 y33_L3 φ := by
  unfold L3
  refine Pt.loop (p' := [1, 1, 1, 0, 1, 0, 0, 1, 1, 0, 0, 1, 1, 0, 0, 0]) (by kernel_rfl) (by kernel_rfl) ?_
  refine Pt.reg (by kernel_rfl) ?_
  refine AtO.bool (b := (decide (y33_L3 < (a4.length : Int)))) (by kernel_rfl) (by kernel_rfl) (fun hc => ?_) (fun hc => ?_)
  · have h := ite_t h (of_decide_eq_true hc)
    refine AtO.go (p' := [1, 1, 1, 0, 1, 0, 0, 1, 1, 0, 0, 1, 1, 0, 0, 1, 1, 0, 0, 0]) (F' := [(0, .agg [.lit (.int .i64 x0.Rows), .sl (x0.Classes.map (eSl (eI .i64)))]), (1, .box [.lit (.int .i64 x0.Rows), .sl (x0.Classes.map (eSl (eI .i64)))]), (3, .own (y3_L1.map (eI .i64))), (5, .lit (.int .i64 y5_L3)), (6, .sl (a4.map (eI .i64))), (24, .sl (x0.Classes.map (eSl (eI .i64)))), (25, .lit (.int .i64 ((x0.Classes.length : Int)))), (26, .lit (.int .i64 y26_L3)), (31, .sl (a4.map (eI .i64))), (32, .lit (.int .i64 ((a4.length : Int)))), (33, .lit (.int .i64 y33_L3))]) 2 (by kernel_rfl) (by kernel_rfl) ?_
    refine Pt.reg (by kernel_rfl) ?_
    obtain ⟨a6, h7, h⟩ := h
    refine AtO.val (by kernel_rfl) (val_idx_sl (t := 38) (x := (.tmp 31)) (ix := (.tmp 33)) (et := 3) (k := 1) (e := (eI .i64)) (l := a4) (i := y33_L3) (q := .i64) (a := a6) (by kernel_rfl) (by kernel_rfl) (by kernel_rfl) (by kernel_rfl) (by kernel_rfl) h7 (by kernel_rfl)) ?_
    refine AtO.seg 2 (by kernel_rfl) ?_
    refine AtO.go (p' := [1, 1, 1, 0, 1, 0, 0, 1, 1, 0, 0, 1, 1, 0, 0, 1, 1, 0, 0, 1]) (F' := [(0, .agg [.lit (.int .i64 x0.Rows), .sl (x0.Classes.map (eSl (eI .i64)))]), (1, .box [.lit (.int .i64 x0.Rows), .sl (x0.Classes.map (eSl (eI .i64)))]), (3, .own (y3_L1.map (eI .i64))), (5, .lit (.int .i64 y5_L3)), (6, .sl (a4.map (eI .i64))), (8, .lit (.int .i64 a6)), (24, .sl (x0.Classes.map (eSl (eI .i64)))), (25, .lit (.int .i64 ((x0.Classes.length : Int)))), (26, .lit (.int .i64 y26_L3)), (31, .sl (a4.map (eI .i64))), (32, .lit (.int .i64 ((a4.length : Int)))), (33, .lit (.int .i64 y33_L3))]) 0 (by kernel_rfl) (by kernel_rfl) ?_
    refine Pt.reg (by kernel_rfl) ?_
    obtain ⟨a8, h9, h⟩ := h
    refine AtO.seg 3 (by kernel_rfl) ?_
    refine AtO.val (by kernel_rfl) (val_idx_ow (s := 3) (ps := []) (t := 38) (x := (.tmp 37)) (ix := (.tmp 38)) (et := 3) (k := 1) (e := (eI .i64)) (l := y3_L1) (i := a6) (q := .i64) (a := a8) (by kernel_rfl) (by kernel_rfl) (by kernel_rfl) (by kernel_rfl) (by kernel_rfl) (by kernel_rfl) h9 (by kernel_rfl)) ?_
    refine AtO.op (by kernel_rfl) (store1 (t := 3) (x := (.tmp 40)) (y := (.tmp 39)) (s := 3) (ps := []) (n := (a6.toNat)) (c := 0) (e := (eI .i64)) (l := y3_L1) (a := a8) (b := y5_L3) (k := 1) (d := .lit (.int .i64 y5_L3)) (by kernel_rfl) (by kernel_rfl) (by kernel_rfl) (by kernel_rfl) (lget_some h9).2 (by kernel_rfl) (by kernel_rfl) (by kernel_rfl) (by kernel_rfl) (by kernel_rfl) (setG_eq (by kernel_rfl))) ?_
    refine AtO.go (p' := [1, 1, 1, 0, 1, 0, 0, 1, 1, 0, 0, 1, 1, 0, 0, 1, 1, 1]) (F' := [(0, .agg [.lit (.int .i64 x0.Rows), .sl (x0.Classes.map (eSl (eI .i64)))]), (1, .box [.lit (.int .i64 x0.Rows), .sl (x0.Classes.map (eSl (eI .i64)))]), (3, .own (((lset y3_L1 a6 y5_L3)).map (eI .i64))), (5, .lit (.int .i64 y5_L3)), (6, .sl (a4.map (eI .i64))), (24, .sl (x0.Classes.map (eSl (eI .i64)))), (25, .lit (.int .i64 ((x0.Classes.length : Int)))), (26, .lit (.int .i64 y26_L3)), (31, .sl (a4.map (eI .i64))), (32, .lit (.int .i64 ((a4.length : Int)))), (33, .lit (.int .i64 y33_L3))]) 0 (by kernel_rfl) (by kernel_rfl) ?_
    refine Pt.reg (by kernel_rfl) ?_
    refine AtO.seg 2 (by kernel_rfl) ?_
    refine AtO.go (p' := [1, 1, 1, 0, 1, 0, 0, 1, 1, 0, 0, 1, 1, 0]) (F' := [(0, .agg [.lit (.int .i64 x0.Rows), .sl (x0.Classes.map (eSl (eI .i64)))]), (1, .box [.lit (.int .i64 x0.Rows), .sl (x0.Classes.map (eSl (eI .i64)))]), (3, .own (((lset y3_L1 a6 y5_L3)).map (eI .i64))), (5, .lit (.int .i64 y5_L3)), (6, .sl (a4.map (eI .i64))), (24, .sl (x0.Classes.map (eSl (eI .i64)))), (25, .lit (.int .i64 ((x0.Classes.length : Int)))), (26, .lit (.int .i64 y26_L3)), (31, .sl (a4.map (eI .i64))), (32, .lit (.int .i64 ((a4.length : Int)))), (33, .lit (.int .i64 ((IntKind.wrap .i64 (y33_L3 + 1)))))]) 0 (by kernel_rfl) (by kernel_rfl) ?_
    exact h
  · have h := ite_f h (of_decide_eq_false hc)
    refine AtO.go (p' := [1, 1, 1, 0, 1, 0, 0, 1, 1, 1]) (F' := [(0, .agg [.lit (.int .i64 x0.Rows), .sl (x0.Classes.map (eSl (eI .i64)))]), (1, .box [.lit (.int .i64 x0.Rows), .sl (x0.Classes.map (eSl (eI .i64)))]), (3, .own (y3_L1.map (eI .i64))), (24, .sl (x0.Classes.map (eSl (eI .i64)))), (25, .lit (.int .i64 ((x0.Classes.length : Int)))), (26, .lit (.int .i64 y26_L3))]) 2 (by kernel_rfl) (by kernel_rfl) ?_
    refine Pt.reg (by kernel_rfl) ?_
    refine AtO.seg 2 (by kernel_rfl) ?_
    refine AtO.go (p' := [1, 1, 1, 0, 1, 0]) (F' := [(0, .agg [.lit (.int .i64 x0.Rows), .sl (x0.Classes.map (eSl (eI .i64)))]), (1, .box [.lit (.int .i64 x0.Rows), .sl (x0.Classes.map (eSl (eI .i64)))]), (3, .own (y3_L1.map (eI .i64))), (24, .sl (x0.Classes.map (eSl (eI .i64)))), (25, .lit (.int .i64 ((x0.Classes.length : Int)))), (26, .lit (.int .i64 ((IntKind.wrap .i64 (y26_L3 + 1)))))]) 0 (by kernel_rfl) (by kernel_rfl) ?_
    exact h
theorem enter (x0 : api_Partition) (φ : List Int → Prop) (h :
    (0 ≤ x0.Rows ∧ x0.Rows * 8 ≤ 281474976710656) ∧
    partition_labels.L1 x0 ((List.replicate x0.Rows.toNat (0 : Int))) 0 φ) : ∃ r, φ r ∧ C x0 r := by
  refine Ret.of_at (E := env) (f := 41) (fd := Tryd.f41) (body := B) (p := [0]) (V := W) (F := [(0, .agg [.lit (.int .i64 x0.Rows), .sl (x0.Classes.map (eSl (eI .i64)))]), (1, .undef), (2, .undef), (3, .undef), (4, .undef), (5, .undef), (6, .undef), (8, .undef), (13, .undef), (14, .undef), (15, .undef), (24, .undef), (25, .undef), (26, .undef), (27, .undef), (31, .undef), (32, .undef), (33, .undef), (34, .undef)]) (res := res) (φ := φ) (ds := [.agg [.lit (.int .i64 x0.Rows), .sl (x0.Classes.map (eSl (eI .i64)))]]) (by kernel_rfl) (by kernel_rfl) (by kernel_rfl) ⟨Nat.le_of_ble_eq_true (by kernel_rfl), Nat.le_of_ble_eq_true (by kernel_rfl)⟩ (by kernel_rfl) (by kernel_rfl) (by kernel_rfl) ?_
  refine Pt.reg (by kernel_rfl) ?_
  refine AtO.seg 2 (by kernel_rfl) ?_
  refine AtO.go (p' := [1, 0]) (F' := [(0, .agg [.lit (.int .i64 x0.Rows), .sl (x0.Classes.map (eSl (eI .i64)))]), (1, .box [.lit (.int .i64 x0.Rows), .sl (x0.Classes.map (eSl (eI .i64)))])]) 0 (by kernel_rfl) (by kernel_rfl) ?_
  refine Pt.reg (by kernel_rfl) ?_
  obtain ⟨h1, h⟩ := h
  refine AtO.seg 2 (by kernel_rfl) ?_
  refine AtO.val (by kernel_rfl) (val_make (t := 38) (x := (.tmp 10)) (y := (.tmp 10)) (q := .i64) (i := x0.Rows) (et := 3) (z := .lit (.int .i64 0)) (e := (eI .i64)) (a := (0 : Int)) (k := 8) (by kernel_rfl) (by kernel_rfl) (by kernel_rfl) (by kernel_rfl) (by kernel_rfl) (by kernel_rfl) (by kernel_rfl) (by kernel_rfl) (by kernel_rfl) (by kernel_rfl) h1.1 h1.2) ?_
  refine AtO.seg 1 (by kernel_rfl) ?_
  refine AtO.go (p' := [1, 1, 0, 0]) (F' := [(0, .agg [.lit (.int .i64 x0.Rows), .sl (x0.Classes.map (eSl (eI .i64)))]), (1, .box [.lit (.int .i64 x0.Rows), .sl (x0.Classes.map (eSl (eI .i64)))]), (3, .own (((List.replicate x0.Rows.toNat (0 : Int))).map (eI .i64)))]) 0 (by kernel_rfl) (by kernel_rfl) ?_
  refine Pt.reg (by kernel_rfl) ?_
  refine AtO.seg 1 (by kernel_rfl) ?_
  refine AtO.val (by kernel_rfl) (val_len (x := (.tmp 12)) (t := 38) (et := 3) (d := .alias 3 []) (e := (eI .i64)) (l := (List.replicate x0.Rows.toNat (0 : Int))) (by kernel_rfl) (by kernel_rfl) (elemsOf_ow (by kernel_rfl)) (by kernel_rfl)) ?_
  refine AtO.seg 1 (by kernel_rfl) ?_
  refine AtO.go (p' := [1, 1, 0, 1, 0]) (F' := [(0, .agg [.lit (.int .i64 x0.Rows), .sl (x0.Classes.map (eSl (eI .i64)))]), (1, .box [.lit (.int .i64 x0.Rows), .sl (x0.Classes.map (eSl (eI .i64)))]), (3, .own (((List.replicate x0.Rows.toNat (0 : Int))).map (eI .i64))), (13, .lit (.int .i64 (((List.replicate x0.Rows.toNat (0 : Int)).length : Int)))), (14, .lit (.int .i64 0))]) 0 (by kernel_rfl) (by kernel_rfl) ?_
  exact h
end partition_labels
end Go.Own

namespace Go.Own
open Go.Proofs D
set_option maxRecDepth 100000
set_option maxHeartbeats 4000000
namespace partition_both
noncomputable def B : Code := (Tryd.f40.body).getD .skip
def W : List Nat := [0, 1, 2, 3, 4, 12, 17]
def res (r : Int) : D × List D := (.lit (.int .i64 r), [])
def C (x0 : api_Partition) (x1 : api_Partition) (r : Int) : Prop := Ret env 40 [.agg [.lit (.int .i64 x0.Rows), .sl (x0.Classes.map (eSl (eI .i64)))], .agg [.lit (.int .i64 x1.Rows), .sl (x1.Classes.map (eSl (eI .i64)))]] (res r).1 (res r).2
theorem enter (x0 : api_Partition) (x1 : api_Partition) (φ : Int → Prop) (h :
    ∃ r1 : Bool, partition_Valid.C x0 r1 ∧
    (if r1 = true then
      ∃ r3 : Bool, partition_Valid.C x1 r3 ∧
      (if r3 = true then
        (if x0.Rows = x1.Rows then
          φ 0
        else
          φ 6)
      else
        φ 1)
    else
      φ 1)) : ∃ r, φ r ∧ C x0 x1 r := by
  refine Ret.of_at (E := env) (f := 40) (fd := Tryd.f40) (body := B) (p := [0]) (V := W) (F := [(0, .agg [.lit (.int .i64 x0.Rows), .sl (x0.Classes.map (eSl (eI .i64)))]), (1, .agg [.lit (.int .i64 x1.Rows), .sl (x1.Classes.map (eSl (eI .i64)))]), (2, .undef), (3, .undef), (4, .undef), (12, .undef), (17, .undef)]) (res := res) (φ := φ) (ds := [.agg [.lit (.int .i64 x0.Rows), .sl (x0.Classes.map (eSl (eI .i64)))], .agg [.lit (.int .i64 x1.Rows), .sl (x1.Classes.map (eSl (eI .i64)))]]) (by kernel_rfl) (by kernel_rfl) (by kernel_rfl) ⟨Nat.le_of_ble_eq_true (by kernel_rfl), Nat.le_of_ble_eq_true (by kernel_rfl)⟩ (by kernel_rfl) (by kernel_rfl) (by kernel_rfl) ?_
  refine Pt.reg (by kernel_rfl) ?_
  refine AtO.seg 3 (by kernel_rfl) ?_
  refine AtO.go (p' := [1, 0, 0]) (F' := [(0, .agg [.lit (.int .i64 x0.Rows), .sl (x0.Classes.map (eSl (eI .i64)))]), (1, .agg [.lit (.int .i64 x1.Rows), .sl (x1.Classes.map (eSl (eI .i64)))]), (2, .box [.lit (.int .i64 x0.Rows), .sl (x0.Classes.map (eSl (eI .i64)))]), (3, .box [.lit (.int .i64 x1.Rows), .sl (x1.Classes.map (eSl (eI .i64)))])]) 0 (by kernel_rfl) (by kernel_rfl) ?_
  refine Pt.reg (by kernel_rfl) ?_
  obtain ⟨r1, h2, h⟩ := h
  refine AtO.seg 1 (by kernel_rfl) ?_
  refine AtO.call0 (x := (.func 15)) (g := 15) (caps := []) (agl := [.opn (.tmp 5)]) (ds := [.agg [.lit (.int .i64 x0.Rows), .sl (x0.Classes.map (eSl (eI .i64)))]]) (r := .lit (.bool r1)) (r' := .lit (.bool r1)) (ms := [none]) (by kernel_rfl) (by kernel_rfl) (by kernel_rfl) (by kernel_rfl) (by kernel_rfl) (by kernel_rfl) (pass_snap (a := .opn (.tmp 5)) (d0 := .agg [.lit (.int .i64 x0.Rows), .sl (x0.Classes.map (eSl (eI .i64)))]) (d := .agg [.lit (.int .i64 x0.Rows), .sl (x0.Classes.map (eSl (eI .i64)))]) (by kernel_rfl) (by kernel_rfl) (by kernel_rfl) pass_nil) h2 rfl (by kernel_rfl) ?_
  refine AtO.putb (fun hc => ?_) (fun hc => ?_)
  · have h := ite_t h (id hc)
    obtain ⟨r3, h4, h⟩ := h
    refine AtO.seg 3 (by kernel_rfl) ?_
    refine AtO.call0 (x := (.func 15)) (g := 15) (caps := []) (agl := [.opn (.tmp 9)]) (ds := [.agg [.lit (.int .i64 x1.Rows), .sl (x1.Classes.map (eSl (eI .i64)))]]) (r := .lit (.bool r3)) (r' := .lit (.bool r3)) (ms := [none]) (by kernel_rfl) (by kernel_rfl) (by kernel_rfl) (by kernel_rfl) (by kernel_rfl) (by kernel_rfl) (pass_snap (a := .opn (.tmp 9)) (d0 := .agg [.lit (.int .i64 x1.Rows), .sl (x1.Classes.map (eSl (eI .i64)))]) (d := .agg [.lit (.int .i64 x1.Rows), .sl (x1.Classes.map (eSl (eI .i64)))]) (by kernel_rfl) (by kernel_rfl) (by kernel_rfl) pass_nil) h4 rfl (by kernel_rfl) ?_
    refine AtO.putb (fun hc => ?_) (fun hc => ?_)
    · have h := ite_t h (id hc)
      refine AtO.seg 2 (by kernel_rfl) ?_
      refine AtO.go (p' := [1, 1, 0, 0]) (F' := [(0, .agg [.lit (.int .i64 x0.Rows), .sl (x0.Classes.map (eSl (eI .i64)))]), (1, .agg [.lit (.int .i64 x1.Rows), .sl (x1.Classes.map (eSl (eI .i64)))]), (2, .box [.lit (.int .i64 x0.Rows), .sl (x0.Classes.map (eSl (eI .i64)))]), (3, .box [.lit (.int .i64 x1.Rows), .sl (x1.Classes.map (eSl (eI .i64)))])]) 2 (by kernel_rfl) (by kernel_rfl) ?_
      refine Pt.reg (by kernel_rfl) ?_
      refine AtO.seg 4 (by kernel_rfl) ?_
      refine AtO.bool (b := (x0.Rows != x1.Rows)) (by kernel_rfl) (by kernel_rfl) (fun hc => ?_) (fun hc => ?_)
      · have h := ite_f h (bne_t hc)
        refine AtO.go (p' := [1, 1, 0, 1, 0, 0]) (F' := []) 1 (by kernel_rfl) (by kernel_rfl) ?_
        refine Pt.reg (by kernel_rfl) ?_
        refine AtO.seg 1 (by kernel_rfl) ?_
        refine AtO.go (p' := [1, 1, 0, 1, 0, 1]) (F' := [(4, .lit (.int .i64 6))]) 0 (by kernel_rfl) (by kernel_rfl) ?_
        exact Pt.ret 6 (by kernel_rfl) (by kernel_rfl) h
      · have h := ite_t h (bne_f hc)
        refine AtO.go (p' := [1, 1, 1, 0]) (F' := []) 2 (by kernel_rfl) (by kernel_rfl) ?_
        refine Pt.reg (by kernel_rfl) ?_
        refine AtO.seg 1 (by kernel_rfl) ?_
        refine AtO.go (p' := [1, 1, 1, 1]) (F' := [(4, .lit (.int .i64 0))]) 0 (by kernel_rfl) (by kernel_rfl) ?_
        exact Pt.ret 0 (by kernel_rfl) (by kernel_rfl) h
    · have h := ite_f h (fls hc)
      refine AtO.seg 2 (by kernel_rfl) ?_
      refine AtO.go (p' := [1, 0, 1, 0, 0]) (F' := []) 1 (by kernel_rfl) (by kernel_rfl) ?_
      refine Pt.reg (by kernel_rfl) ?_
      refine AtO.seg 1 (by kernel_rfl) ?_
      refine AtO.go (p' := [1, 0, 1, 0, 1]) (F' := [(4, .lit (.int .i64 1))]) 0 (by kernel_rfl) (by kernel_rfl) ?_
      exact Pt.ret 1 (by kernel_rfl) (by kernel_rfl) h
  · have h := ite_f h (fls hc)
    refine AtO.seg 6 (by kernel_rfl) ?_
    refine AtO.go (p' := [1, 0, 1, 0, 0]) (F' := []) 1 (by kernel_rfl) (by kernel_rfl) ?_
    refine Pt.reg (by kernel_rfl) ?_
    refine AtO.seg 1 (by kernel_rfl) ?_
    refine AtO.go (p' := [1, 0, 1, 0, 1]) (F' := [(4, .lit (.int .i64 1))]) 0 (by kernel_rfl) (by kernel_rfl) ?_
    exact Pt.ret 1 (by kernel_rfl) (by kernel_rfl) h
end partition_both
end Go.Own

namespace Go.Own
open Go.Proofs D
set_option maxRecDepth 100000
set_option maxHeartbeats 4000000
namespace drossref08_Few
noncomputable def B : Code := (Tryd.f22.body).getD .skip
def W : List Nat := [0, 1, 2]
def res (r : Bool) : D × List D := (.lit (.bool r), [])
def C (x0 : api_Partition) (r : Bool) : Prop := Ret env 22 [.agg [.lit (.int .i64 x0.Rows), .sl (x0.Classes.map (eSl (eI .i64)))]] (res r).1 (res r).2
theorem enter (x0 : api_Partition) (φ : Bool → Prop) (h :
    ∃ r1 : Bool, drossref08_Valid.C x0 r1 ∧
    (if r1 = true then
      φ ((decide (x0.Rows ≤ 40)))
    else
      φ true)) : ∃ r, φ r ∧ C x0 r := by
  refine Ret.of_at (E := env) (f := 22) (fd := Tryd.f22) (body := B) (p := [0]) (V := W) (F := [(0, .agg [.lit (.int .i64 x0.Rows), .sl (x0.Classes.map (eSl (eI .i64)))]), (1, .undef), (2, .undef)]) (res := res) (φ := φ) (ds := [.agg [.lit (.int .i64 x0.Rows), .sl (x0.Classes.map (eSl (eI .i64)))]]) (by kernel_rfl) (by kernel_rfl) (by kernel_rfl) ⟨Nat.le_of_ble_eq_true (by kernel_rfl), Nat.le_of_ble_eq_true (by kernel_rfl)⟩ (by kernel_rfl) (by kernel_rfl) (by kernel_rfl) ?_
  refine Pt.reg (by kernel_rfl) ?_
  refine AtO.seg 2 (by kernel_rfl) ?_
  refine AtO.go (p' := [1, 0]) (F' := [(0, .agg [.lit (.int .i64 x0.Rows), .sl (x0.Classes.map (eSl (eI .i64)))]), (1, .box [.lit (.int .i64 x0.Rows), .sl (x0.Classes.map (eSl (eI .i64)))])]) 0 (by kernel_rfl) (by kernel_rfl) ?_
  refine Pt.reg (by kernel_rfl) ?_
  obtain ⟨r1, h2, h⟩ := h
  refine AtO.seg 1 (by kernel_rfl) ?_
  refine AtO.call0 (x := (.func 16)) (g := 16) (caps := []) (agl := [.opn (.tmp 3)]) (ds := [.agg [.lit (.int .i64 x0.Rows), .sl (x0.Classes.map (eSl (eI .i64)))]]) (r := .lit (.bool r1)) (r' := .lit (.bool r1)) (ms := [none]) (by kernel_rfl) (by kernel_rfl) (by kernel_rfl) (by kernel_rfl) (by kernel_rfl) (by kernel_rfl) (pass_snap (a := .opn (.tmp 3)) (d0 := .agg [.lit (.int .i64 x0.Rows), .sl (x0.Classes.map (eSl (eI .i64)))]) (d := .agg [.lit (.int .i64 x0.Rows), .sl (x0.Classes.map (eSl (eI .i64)))]) (by kernel_rfl) (by kernel_rfl) (by kernel_rfl) pass_nil) h2 rfl (by kernel_rfl) ?_
  refine AtO.putb (fun hc => ?_) (fun hc => ?_)
  · have h := ite_t h (id hc)
    refine AtO.seg 7 (by kernel_rfl) ?_
    refine AtO.go (p' := [1, 1]) (F' := [(2, .lit (.bool ((decide (x0.Rows ≤ 40)))))]) 0 (by kernel_rfl) (by kernel_rfl) ?_
    exact Pt.ret ((decide (x0.Rows ≤ 40))) (by kernel_rfl) (by kernel_rfl) h
  · have h := ite_f h (fls hc)
    refine AtO.seg 7 (by kernel_rfl) ?_
    refine AtO.go (p' := [1, 1]) (F' := [(2, .lit (.bool true))]) 0 (by kernel_rfl) (by kernel_rfl) ?_
    exact Pt.ret true (by kernel_rfl) (by kernel_rfl) h
end drossref08_Few
end Go.Own

namespace Go.Own
theorem Small_of_ok {p : api_Partition} (h : p.Classes.length ≤ maxLen ∧ ∀ c ∈ p.Classes, c.length ≤ maxLen) : Small p := by
  have : maxLen < Big := by unfold maxLen Big; omega
  exact ⟨by have := h.1; omega, fun c hc => by have := h.2 c hc; omega⟩
def negs (n : Nat) : List Int := (List.range n).map fun (k : Nat) => -1 - (k : Int)
theorem negs_get {n k : Nat} (h : k < n) : (negs n)[k]? = some (-1 - (k : Int)) := by simp [negs, h]
theorem negs_len {n : Nat} : (negs n).length = n := by simp [negs]
def idx : Nat → List (List Int) → List (Int × List Int)
  | _, [] => []
  | k, c :: cs => ((k : Int), c) :: idx (k + 1) cs
theorem idx_mem : ∀ {cs : List (List Int)} {k : Nat} {x : Int × List Int}, x ∈ idx k cs → ∃ n : Nat, k ≤ n ∧ x.1 = (n : Int) ∧ cs[n - k]? = some x.2
  | [], _, _, h => by cases h
  | c :: cs, k, x, h => by
    rcases List.mem_cons.1 h with rfl | h
    · exact ⟨k, by omega, rfl, by simp⟩
    · obtain ⟨n, h1, h2, h3⟩ := idx_mem h
      refine ⟨n, by omega, h2, ?_⟩
      have : n - k = (n - (k + 1)) + 1 := by omega
      rw [this, List.getElem?_cons_succ]; exact h3
theorem idx_of : ∀ {cs : List (List Int)} {k : Nat} {c : List Int}, c ∈ cs → ∃ n : Nat, ((n : Int), c) ∈ idx k cs
  | [], _, _, h => by cases h
  | d :: cs, k, c, h => by
    rcases List.mem_cons.1 h with rfl | h
    · exact ⟨k, by simp [idx]⟩
    · obtain ⟨n, hn⟩ := idx_of (k := k + 1) h
      exact ⟨n, by simp [idx, hn]⟩
theorem idx_snd : ∀ {cs : List (List Int)} {k : Nat}, (idx k cs).map Prod.snd = cs
  | [], _ => rfl
  | c :: cs, k => by simp [idx, idx_snd]
def labN (p : api_Partition) : List Int := layAll (idx 0 p.Classes) (negs p.Rows.toNat)
theorem labN_len {p : api_Partition} : (labN p).length = p.Rows.toNat := by unfold labN; rw [layAll_len, negs_len]
namespace partition_labels
theorem fill {x0 : api_Partition} {φ : List Int → Prop} (h0 : 0 ≤ x0.Rows) (h1 : x0.Rows ≤ 1000) (hL : L2 x0 (negs x0.Rows.toNat) 0 φ) : ∀ (m k : Nat), k + m = x0.Rows.toNat → L1 x0 (negs k ++ List.replicate m 0) k φ
  | 0, k, hk => by
    apply L1_step
    rw [if_neg (by simp; omega)]
    have : k = x0.Rows.toNat := by omega
    simpa [this] using hL
  | m + 1, k, hk => by
    apply L1_step
    rw [if_pos (by simp; omega)]
    have hl : (negs k).length = k := negs_len
    refine ⟨0, ?_, ?_⟩
    · rw [lget_nat, List.getElem?_append_right (by omega)]
      simp [hl]
    · rw [wrap_succ (by omega), wrap_id (by omega) (by omega)]
      have : lset (negs k ++ List.replicate (m + 1) 0) (k : Int) (-1 - (k : Int)) = negs (k + 1) ++ List.replicate m 0 := by
        unfold lset
        rw [Int.toNat_natCast, List.set_append_right _ _ (by omega), hl, Nat.sub_self, List.replicate_succ, List.set_cons_zero]
        simp [negs, List.range_succ]
      rw [this]
      exact fill h0 h1 hL m (k + 1) (by omega)
theorem inner {x0 : api_Partition} {φ : List Int → Prop} {c : List Int} {a : Int} {j : Nat} (hb : c.length < Big) (hj : j + 1 < Big) : ∀ (r : List Int) (k : Nat) (l : List Int), c.drop k = r → (∀ i ∈ r, 0 ≤ i ∧ i < l.length) →
    L2 x0 (labClass a l r) ((j + 1 : Nat) : Int) φ → L3 x0 l a c j k φ
  | [], k, l, hd, hin, h => by
    apply L3_step
    have := drop_ge hd
    rw [if_neg (by omega), wrap_succ hj]
    exact h
  | i :: r, k, l, hd, hin, h => by
    apply L3_step
    have hk := drop_lt hd
    have hi := hin i (by simp)
    rw [if_pos (by omega)]
    obtain ⟨x, hx⟩ := lget_lt (l := l) (i := i) hi.1 hi.2
    refine ⟨i, lget_drop hd, x, hx, ?_⟩
    rw [wrap_succ (by unfold Big at hb; omega)]
    exact inner hb hj r (k + 1) _ (drop_next hd) (fun q hq => by rw [lset_length]; exact hin q (by simp [hq])) h
theorem outer {x0 : api_Partition} {φ : List Int → Prop} (hb : Small x0) : ∀ (cs : List (List Int)) (k : Nat) (l : List Int), x0.Classes.drop k = cs → (∀ c ∈ cs, ∀ i ∈ c, 0 ≤ i ∧ i < l.length) →
    φ (layAll (idx k cs) l) → L2 x0 l k φ
  | [], k, l, hd, hin, h => by
    apply L2_step
    have := drop_ge hd
    rw [if_neg (by omega)]
    exact h
  | c :: cs, k, l, hd, hin, h => by
    apply L2_step
    have hk := drop_lt hd
    rw [if_pos (by omega)]
    have hcg := drop_get hd
    refine ⟨c, lget_drop hd, ?_⟩
    refine inner (hb.2 _ (List.mem_of_getElem? hcg)) (by have := hb.1; omega) c 0 l rfl (hin c (by simp)) ?_
    exact outer hb cs (k + 1) _ (drop_next hd) (fun d hd i hi => by rw [labClass_len]; exact hin d (by simp [hd]) i hi) h
theorem spec {x0 : api_Partition} (hb : Small x0) (hv : validF x0 = true) : C x0 (labN x0) := by
  obtain ⟨v1, v2, v3⟩ := valid_iff.1 hv
  obtain ⟨r, h1, h2⟩ := enter x0 (fun r => r = labN x0) (by
    refine ⟨by omega, ?_⟩
    have := fill (φ := fun r => r = labN x0) v1 v2 (outer hb x0.Classes 0 _ rfl (fun c hc i hi => by have := v3.inn c hc i hi; rw [negs_len]; omega) rfl) x0.Rows.toNat 0 (by omega)
    simpa [negs] using this)
  rw [← h1]; exact h2
end partition_labels
theorem labN_out {p : api_Partition} (hv : validF p = true) {i : Int} (h0 : 0 ≤ i) (h1 : i < p.Rows) (hn : ∀ c ∈ p.Classes, i ∉ c) : lget (labN p) i = some (-1 - i) := by
  obtain ⟨v1, v2, v3⟩ := valid_iff.1 hv
  unfold labN
  rw [layAll_out (fun x hx => ?_) h0 (by rw [negs_len]; omega) (fun x hx => ?_)]
  · simp only [lget, if_pos h0]
    rw [negs_get (by omega)]
    congr 1; omega
  · obtain ⟨n, _, _, h3⟩ := idx_mem hx
    intro j hj
    have := v3.inn _ (List.mem_of_getElem? h3) j hj
    rw [negs_len]; omega
  · obtain ⟨n, _, _, h3⟩ := idx_mem hx
    exact hn _ (List.mem_of_getElem? h3)
theorem labN_in {p : api_Partition} (hv : validF p = true) {i : Int} {x : Int × List Int} (hc : x ∈ idx 0 p.Classes) (hi : i ∈ x.2) : lget (labN p) i = some x.1 := by
  obtain ⟨v1, v2, v3⟩ := valid_iff.1 hv
  obtain ⟨n, _, _, h3⟩ := idx_mem hc
  have hin := v3.inn _ (List.mem_of_getElem? h3) i hi
  unfold labN
  refine layAll_in (fun y hy => ?_) hin.1 (by rw [negs_len]; omega) ?_ hc hi
  · obtain ⟨n, _, _, h3⟩ := idx_mem hy
    intro j hj
    have := v3.inn _ (List.mem_of_getElem? h3) j hj
    rw [negs_len]; omega
  · have := v3.disj
    rw [← idx_snd (cs := p.Classes) (k := 0)] at this
    exact List.pairwise_map.1 this
theorem labN_same {p : api_Partition} (hv : validF p = true) {i j : Int} (hi : 0 ≤ i ∧ i < p.Rows) (hj : 0 ≤ j ∧ j < p.Rows) : lget (labN p) i = lget (labN p) j ↔ Same p i j := by
  obtain ⟨v1, v2, v3⟩ := valid_iff.1 hv
  have inn : ∀ {i : Int}, (∃ c ∈ p.Classes, i ∈ c) → ∃ x ∈ idx 0 p.Classes, i ∈ x.2 := by
    rintro i ⟨c, hc, hi⟩
    obtain ⟨n, hn⟩ := idx_of (k := 0) hc
    exact ⟨_, hn, hi⟩
  constructor
  · intro h
    by_cases hic : ∃ c ∈ p.Classes, i ∈ c
    · obtain ⟨x, hx, hxi⟩ := inn hic
      obtain ⟨n, _, e1, g1⟩ := idx_mem hx
      rw [labN_in hv hx hxi] at h
      by_cases hjc : ∃ d ∈ p.Classes, j ∈ d
      · obtain ⟨y, hy, hyj⟩ := inn hjc
        obtain ⟨m, _, e2, g2⟩ := idx_mem hy
        rw [labN_in hv hy hyj] at h
        have h2 := Option.some.inj h
        have : n = m := by omega
        subst this
        rw [g1] at g2
        have := Option.some.inj g2
        exact .inr ⟨x.2, List.mem_of_getElem? g1, hxi, by rw [this]; exact hyj⟩
      · rw [labN_out hv hj.1 hj.2 (fun c hc hjc' => hjc ⟨c, hc, hjc'⟩)] at h
        have h2 := Option.some.inj h
        omega
    · rw [labN_out hv hi.1 hi.2 (fun c hc hic' => hic ⟨c, hc, hic'⟩)] at h
      by_cases hjc : ∃ d ∈ p.Classes, j ∈ d
      · obtain ⟨y, hy, hyj⟩ := inn hjc
        obtain ⟨m, _, e2, g2⟩ := idx_mem hy
        rw [labN_in hv hy hyj] at h
        have h2 := Option.some.inj h
        omega
      · rw [labN_out hv hj.1 hj.2 (fun c hc hjc' => hjc ⟨c, hc, hjc'⟩)] at h
        exact .inl (by have := Option.some.inj h; omega)
  · rintro (rfl | ⟨c, hc, h1, h2⟩)
    · rfl
    · obtain ⟨n, hn⟩ := idx_of (k := 0) hc
      rw [labN_in hv hn h1, labN_in hv hn h2]
def bothF (a b : api_Partition) : Int := if validF a then (if validF b then (if a.Rows = b.Rows then 0 else 6) else 1) else 1
theorem partition_both.spec {a b : api_Partition} (ha : Small a) (hb : Small b) : partition_both.C a b (bothF a b) := by
  obtain ⟨r, h1, h2⟩ := partition_both.enter a b (fun r => r = bothF a b) (by
    refine ⟨_, partition_Valid.spec ha, ?_⟩
    unfold bothF
    split
    · refine ⟨_, partition_Valid.spec hb, ?_⟩
      split
      · split
        · rfl
        · rfl
      · rfl
    · rfl)
  rw [← h1]; exact h2
theorem drossref08_Few.spec {a : api_Partition} (ha : Small a) : drossref08_Few.C a (!validF a || decide (a.Rows ≤ 40)) := by
  obtain ⟨r, h1, h2⟩ := drossref08_Few.enter a (fun r => r = (!validF a || decide (a.Rows ≤ 40))) (by
    refine ⟨_, drossref08_Valid.spec ha, ?_⟩
    split
    · rename_i h; rw [h]; rfl
    · rename_i h
      have : validF a = false := by simpa using h
      rw [this]; rfl)
  rw [← h1]; exact h2
theorem extra_mem {rows : Int} : ∀ {cs : List (List Int)} {c : List Int}, CP rows cs → c ∈ cs → (c.length : Int) - 1 ≤ extra cs ∧ (cs.length : Int) ≤ extra cs
  | [], _, _, h => by cases h
  | d :: cs, c, hp, h => by
    have hd := hp.two d (by simp)
    have hp' : CP rows cs := ⟨fun c hc => hp.two c (by simp [hc]), fun c hc => hp.inc c (by simp [hc]), fun c hc => hp.inn c (by simp [hc]), (List.pairwise_cons.1 hp.heads).2, (List.pairwise_cons.1 hp.disj).2⟩
    have hnn : ∀ {cs : List (List Int)}, CP rows cs → (cs.length : Int) ≤ extra cs := by
      intro cs
      induction cs with
      | nil => intro _; simp [extra]
      | cons e cs ih =>
        intro hq
        have he := hq.two e (by simp)
        have := ih ⟨fun c hc => hq.two c (by simp [hc]), fun c hc => hq.inc c (by simp [hc]), fun c hc => hq.inn c (by simp [hc]), (List.pairwise_cons.1 hq.heads).2, (List.pairwise_cons.1 hq.disj).2⟩
        simp only [extra, List.length_cons]; omega
    have h1 := hnn hp'
    simp only [extra, List.length_cons]
    refine ⟨?_, by omega⟩
    rcases List.mem_cons.1 h with rfl | h
    · omega
    · have := (extra_mem hp' h).1; omega
theorem sizes {x : api_Partition} (hv : validF x = true) : x.Classes.length ≤ 1000 ∧ ∀ c ∈ x.Classes, c.length ≤ 1001 := by
  obtain ⟨v1, v2, v3⟩ := valid_iff.1 hv
  obtain ⟨w1, w2, w3⟩ := valid_ok hv
  have h1 := (extra_free (by simp; omega) w3).2
  rw [free_replicate] at h1
  refine ⟨?_, fun c hc => ?_⟩
  · cases hcs : x.Classes with
    | nil => simp
    | cons c cs =>
      have := (extra_mem v3 (c := c) (by rw [hcs]; simp)).2
      rw [hcs] at this h1; omega
  · have := (extra_mem v3 hc).1; omega
def lab1 (r : List Int) (i : Int) : Int := (lget r i).getD 0
theorem lab1_of {r : List Int} {i a : Int} (h : lget r i = some a) : lab1 r i = a := by simp [lab1, h]
theorem lab1_iff {r : List Int} {i j : Int} (hi : 0 ≤ i ∧ i < r.length) (hj : 0 ≤ j ∧ j < r.length) : lab1 r i = lab1 r j ↔ lget r i = lget r j := by
  obtain ⟨a, ha⟩ := lget_lt hi.1 hi.2
  obtain ⟨b, hb⟩ := lget_lt hj.1 hj.2
  simp [lab1, ha, hb]
end Go.Own

namespace Go.Own
open Go.Proofs D
set_option maxRecDepth 100000
set_option maxHeartbeats 4000000
namespace partition_Removal
noncomputable def B : Code := (Tryd.f23.body).getD .skip
def W : List Nat := [0, 1, 2, 3, 4, 5, 6, 7, 8, 10, 11, 12, 14, 19, 24, 25, 26, 27, 31, 32, 33, 34]
def res (r : Int × Int) : D × List D := (.tup [.lit (.int .i64 r.1), .lit (.int .i64 r.2)], [])
def C (x0 : api_Partition) (x1 : api_Partition) (r : Int × Int) : Prop := Ret env 23 [.agg [.lit (.int .i64 x0.Rows), .sl (x0.Classes.map (eSl (eI .i64)))], .agg [.lit (.int .i64 x1.Rows), .sl (x1.Classes.map (eSl (eI .i64)))]] (res r).1 (res r).2
def L1 (x0 : api_Partition) (r3 : List Int) (y8_L1 : Int) (y26_L1 : Int) (φ : Int × Int → Prop) : Prop := Pt env 23 W B [1, 1, 1, 1, 0, 1, 0] [(0, .agg [.lit (.int .i64 x0.Rows), .sl (x0.Classes.map (eSl (eI .i64)))]), (2, .box [.lit (.int .i64 x0.Rows), .sl (x0.Classes.map (eSl (eI .i64)))]), (7, .own (r3.map (eI .i64))), (8, .lit (.int .i64 y8_L1)), (24, .sl (x0.Classes.map (eSl (eI .i64)))), (25, .lit (.int .i64 ((x0.Classes.length : Int)))), (26, .lit (.int .i64 y26_L1))] (Lv env 23 Tryd.f23 2 res φ)
def L2 (x0 : api_Partition) (r3 : List Int) (y8_L2 : Int) (a5 : List Int) (y11_L2 : List (Int × Int)) (y12_L2 : Int) (y26_L2 : Int) (y33_L2 : Int) (φ : Int × Int → Prop) : Prop := Pt env 23 W B [1, 1, 1, 1, 0, 1, 0, 0, 1, 1, 0, 0, 1, 1, 1, 0, 1, 0] [(0, .agg [.lit (.int .i64 x0.Rows), .sl (x0.Classes.map (eSl (eI .i64)))]), (2, .box [.lit (.int .i64 x0.Rows), .sl (x0.Classes.map (eSl (eI .i64)))]), (7, .own (r3.map (eI .i64))), (8, .lit (.int .i64 y8_L2)), (10, .sl (a5.map (eI .i64))), (11, (eMap (Value.int .i64) (fun (x : Int) => D.lit (.int .i64 x)) y11_L2)), (12, .lit (.int .i64 y12_L2)), (24, .sl (x0.Classes.map (eSl (eI .i64)))), (25, .lit (.int .i64 ((x0.Classes.length : Int)))), (26, .lit (.int .i64 y26_L2)), (31, .sl (a5.map (eI .i64))), (32, .lit (.int .i64 ((a5.length : Int)))), (33, .lit (.int .i64 y33_L2))] (Lv env 23 Tryd.f23 2 res φ)
theorem L1_step (x0 : api_Partition) (r3 : List Int) (y8_L1 : Int) (y26_L1 : Int) (φ : Int × Int → Prop) (h :
    (if y26_L1 < (x0.Classes.length : Int) then
      ∃ a5, lget x0.Classes y26_L1 = some a5 ∧
      partition_Removal.L2 x0 r3 y8_L1 a5 ([]) 0 y26_L1 0 φ
    else
      φ ((y8_L1, 0)))) : L1 x0 r3 y8_L1 y26_L1 φ := by
  unfold L1
  refine Pt.loop (p' := [1, 1, 1, 1, 0, 1, 0, 0, 0]) (by kernel_rfl) (by kernel_rfl) ?_
  refine Pt.reg (by kernel_rfl) ?_
  refine AtO.bool (b := (decide (y26_L1 < (x0.Classes.length : Int)))) (by kernel_rfl) (by kernel_rfl) (fun hc => ?_) (fun hc => ?_)
  · have h := ite_t h (of_decide_eq_true hc)
    refine AtO.go (p' := [1, 1, 1, 1, 0, 1, 0, 0, 1, 1, 0, 0, 0]) (F' := [(0, .agg [.lit (.int .i64 x0.Rows), .sl (x0.Classes.map (eSl (eI .i64)))]), (2, .box [.lit (.int .i64 x0.Rows), .sl (x0.Classes.map (eSl (eI .i64)))]), (7, .own (r3.map (eI .i64))), (8, .lit (.int .i64 y8_L1)), (24, .sl (x0.Classes.map (eSl (eI .i64)))), (25, .lit (.int .i64 ((x0.Classes.length : Int)))), (26, .lit (.int .i64 y26_L1))]) 2 (by kernel_rfl) (by kernel_rfl) ?_
    refine Pt.reg (by kernel_rfl) ?_
    obtain ⟨a5, h6, h⟩ := h
    refine AtO.val (by kernel_rfl) (val_idx_sl (t := 29) (x := (.tmp 24)) (ix := (.tmp 26)) (et := 38) (k := 1) (e := (eSl (eI .i64))) (l := x0.Classes) (i := y26_L1) (q := .i64) (a := a5) (by kernel_rfl) (by kernel_rfl) (by kernel_rfl) (by kernel_rfl) (by kernel_rfl) h6 (by kernel_rfl)) ?_
    refine AtO.seg 2 (by kernel_rfl) ?_
    refine AtO.go (p' := [1, 1, 1, 1, 0, 1, 0, 0, 1, 1, 0, 0, 1, 0]) (F' := [(0, .agg [.lit (.int .i64 x0.Rows), .sl (x0.Classes.map (eSl (eI .i64)))]), (2, .box [.lit (.int .i64 x0.Rows), .sl (x0.Classes.map (eSl (eI .i64)))]), (7, .own (r3.map (eI .i64))), (8, .lit (.int .i64 y8_L1)), (10, .sl (a5.map (eI .i64))), (24, .sl (x0.Classes.map (eSl (eI .i64)))), (25, .lit (.int .i64 ((x0.Classes.length : Int)))), (26, .lit (.int .i64 y26_L1))]) 0 (by kernel_rfl) (by kernel_rfl) ?_
    refine Pt.reg (by kernel_rfl) ?_
    refine AtO.seg 2 (by kernel_rfl) ?_
    refine AtO.go (p' := [1, 1, 1, 1, 0, 1, 0, 0, 1, 1, 0, 0, 1, 1, 0]) (F' := [(0, .agg [.lit (.int .i64 x0.Rows), .sl (x0.Classes.map (eSl (eI .i64)))]), (2, .box [.lit (.int .i64 x0.Rows), .sl (x0.Classes.map (eSl (eI .i64)))]), (7, .own (r3.map (eI .i64))), (8, .lit (.int .i64 y8_L1)), (10, .sl (a5.map (eI .i64))), (11, (eMap (Value.int .i64) (fun (x : Int) => D.lit (.int .i64 x)) ([]))), (24, .sl (x0.Classes.map (eSl (eI .i64)))), (25, .lit (.int .i64 ((x0.Classes.length : Int)))), (26, .lit (.int .i64 y26_L1))]) 0 (by kernel_rfl) (by kernel_rfl) ?_
    refine Pt.reg (by kernel_rfl) ?_
    refine AtO.seg 1 (by kernel_rfl) ?_
    refine AtO.go (p' := [1, 1, 1, 1, 0, 1, 0, 0, 1, 1, 0, 0, 1, 1, 1, 0, 0]) (F' := [(0, .agg [.lit (.int .i64 x0.Rows), .sl (x0.Classes.map (eSl (eI .i64)))]), (2, .box [.lit (.int .i64 x0.Rows), .sl (x0.Classes.map (eSl (eI .i64)))]), (7, .own (r3.map (eI .i64))), (8, .lit (.int .i64 y8_L1)), (10, .sl (a5.map (eI .i64))), (11, (eMap (Value.int .i64) (fun (x : Int) => D.lit (.int .i64 x)) ([]))), (12, .lit (.int .i64 0)), (24, .sl (x0.Classes.map (eSl (eI .i64)))), (25, .lit (.int .i64 ((x0.Classes.length : Int)))), (26, .lit (.int .i64 y26_L1))]) 0 (by kernel_rfl) (by kernel_rfl) ?_
    refine Pt.reg (by kernel_rfl) ?_
    refine AtO.seg 1 (by kernel_rfl) ?_
    refine AtO.val (by kernel_rfl) (val_len (x := (.tmp 31)) (t := 38) (et := 3) (d := .sl (a5.map (eI .i64))) (e := (eI .i64)) (l := a5) (by kernel_rfl) (by kernel_rfl) elemsOf_sl (by kernel_rfl)) ?_
    refine AtO.seg 1 (by kernel_rfl) ?_
    refine AtO.go (p' := [1, 1, 1, 1, 0, 1, 0, 0, 1, 1, 0, 0, 1, 1, 1, 0, 1, 0]) (F' := [(0, .agg [.lit (.int .i64 x0.Rows), .sl (x0.Classes.map (eSl (eI .i64)))]), (2, .box [.lit (.int .i64 x0.Rows), .sl (x0.Classes.map (eSl (eI .i64)))]), (7, .own (r3.map (eI .i64))), (8, .lit (.int .i64 y8_L1)), (10, .sl (a5.map (eI .i64))), (11, (eMap (Value.int .i64) (fun (x : Int) => D.lit (.int .i64 x)) ([]))), (12, .lit (.int .i64 0)), (24, .sl (x0.Classes.map (eSl (eI .i64)))), (25, .lit (.int .i64 ((x0.Classes.length : Int)))), (26, .lit (.int .i64 y26_L1)), (31, .sl (a5.map (eI .i64))), (32, .lit (.int .i64 ((a5.length : Int)))), (33, .lit (.int .i64 0))]) 0 (by kernel_rfl) (by kernel_rfl) ?_
    exact h
  · have h := ite_f h (of_decide_eq_false hc)
    refine AtO.go (p' := [1, 1, 1, 1, 1, 0]) (F' := [(8, .lit (.int .i64 y8_L1))]) 2 (by kernel_rfl) (by kernel_rfl) ?_
    refine Pt.reg (by kernel_rfl) ?_
    refine AtO.seg 3 (by kernel_rfl) ?_
    refine AtO.go (p' := [1, 1, 1, 1, 1, 1]) (F' := [(4, .lit (.int .i64 y8_L1)), (5, .lit (.int .i64 0))]) 0 (by kernel_rfl) (by kernel_rfl) ?_
    exact Pt.ret ((y8_L1, 0)) (by kernel_rfl) (by kernel_rfl) h
theorem L2_step (x0 : api_Partition) (r3 : List Int) (y8_L2 : Int) (a5 : List Int) (y11_L2 : List (Int × Int)) (y12_L2 : Int) (y26_L2 : Int) (y33_L2 : Int) (φ : Int × Int → Prop) (h :
    (if y33_L2 < (a5.length : Int) then
      ∃ a7, lget a5 y33_L2 = some a7 ∧
      ∃ a9, lget r3 a7 = some a9 ∧
      partition_Removal.L2 x0 r3 y8_L2 a5 ((mset a9 (IntKind.wrap .i64 ((mgetD a9 y11_L2 0) + 1)) y11_L2)) ((imax y12_L2 (mgetD a9 (mset a9 (IntKind.wrap .i64 ((mgetD a9 y11_L2 0) + 1)) y11_L2) 0))) y26_L2 ((IntKind.wrap .i64 (y33_L2 + 1))) φ
    else
      partition_Removal.L1 x0 r3 ((IntKind.wrap .i64 (y8_L2 + (IntKind.wrap .i64 ((a5.length : Int) - y12_L2))))) ((IntKind.wrap .i64 (y26_L2 + 1))) φ)) : L2 x0 r3 y8_L2 a5 y11_L2 y12_L2 y26_L2 y33_L2 φ := by
  unfold L2
  refine Pt.loop (p' := [1, 1, 1, 1, 0, 1, 0, 0, 1, 1, 0, 0, 1, 1, 1, 0, 1, 0, 0, 0]) (by kernel_rfl) (by kernel_rfl) ?_
  refine Pt.reg (by kernel_rfl) ?_
  refine AtO.bool (b := (decide (y33_L2 < (a5.length : Int)))) (by kernel_rfl) (by kernel_rfl) (fun hc => ?_) (fun hc => ?_)
  · have h := ite_t h (of_decide_eq_true hc)
    refine AtO.go (p' := [1, 1, 1, 1, 0, 1, 0, 0, 1, 1, 0, 0, 1, 1, 1, 0, 1, 0, 0, 1, 1, 0, 0, 0]) (F' := [(0, .agg [.lit (.int .i64 x0.Rows), .sl (x0.Classes.map (eSl (eI .i64)))]), (2, .box [.lit (.int .i64 x0.Rows), .sl (x0.Classes.map (eSl (eI .i64)))]), (7, .own (r3.map (eI .i64))), (8, .lit (.int .i64 y8_L2)), (10, .sl (a5.map (eI .i64))), (11, (eMap (Value.int .i64) (fun (x : Int) => D.lit (.int .i64 x)) y11_L2)), (12, .lit (.int .i64 y12_L2)), (24, .sl (x0.Classes.map (eSl (eI .i64)))), (25, .lit (.int .i64 ((x0.Classes.length : Int)))), (26, .lit (.int .i64 y26_L2)), (31, .sl (a5.map (eI .i64))), (32, .lit (.int .i64 ((a5.length : Int)))), (33, .lit (.int .i64 y33_L2))]) 2 (by kernel_rfl) (by kernel_rfl) ?_
    refine Pt.reg (by kernel_rfl) ?_
    obtain ⟨a7, h8, h⟩ := h
    refine AtO.val (by kernel_rfl) (val_idx_sl (t := 38) (x := (.tmp 31)) (ix := (.tmp 33)) (et := 3) (k := 1) (e := (eI .i64)) (l := a5) (i := y33_L2) (q := .i64) (a := a7) (by kernel_rfl) (by kernel_rfl) (by kernel_rfl) (by kernel_rfl) (by kernel_rfl) h8 (by kernel_rfl)) ?_
    refine AtO.seg 2 (by kernel_rfl) ?_
    refine AtO.go (p' := [1, 1, 1, 1, 0, 1, 0, 0, 1, 1, 0, 0, 1, 1, 1, 0, 1, 0, 0, 1, 1, 0, 0, 1, 0]) (F' := [(0, .agg [.lit (.int .i64 x0.Rows), .sl (x0.Classes.map (eSl (eI .i64)))]), (2, .box [.lit (.int .i64 x0.Rows), .sl (x0.Classes.map (eSl (eI .i64)))]), (7, .own (r3.map (eI .i64))), (8, .lit (.int .i64 y8_L2)), (10, .sl (a5.map (eI .i64))), (11, (eMap (Value.int .i64) (fun (x : Int) => D.lit (.int .i64 x)) y11_L2)), (12, .lit (.int .i64 y12_L2)), (14, .lit (.int .i64 a7)), (24, .sl (x0.Classes.map (eSl (eI .i64)))), (25, .lit (.int .i64 ((x0.Classes.length : Int)))), (26, .lit (.int .i64 y26_L2)), (31, .sl (a5.map (eI .i64))), (32, .lit (.int .i64 ((a5.length : Int)))), (33, .lit (.int .i64 y33_L2))]) 0 (by kernel_rfl) (by kernel_rfl) ?_
    refine Pt.reg (by kernel_rfl) ?_
    obtain ⟨a9, h10, h⟩ := h
    refine AtO.seg 3 (by kernel_rfl) ?_
    refine AtO.val (by kernel_rfl) (val_idx_ow (s := 7) (ps := []) (t := 38) (x := (.tmp 38)) (ix := (.tmp 39)) (et := 3) (k := 1) (e := (eI .i64)) (l := r3) (i := a7) (q := .i64) (a := a9) (by kernel_rfl) (by kernel_rfl) (by kernel_rfl) (by kernel_rfl) (by kernel_rfl) (by kernel_rfl) h10 (by kernel_rfl)) ?_
    refine AtO.val (by kernel_rfl) (val_load_ow (t := 3) (x := (.tmp 40)) (s := 7) (ps := []) (n := (a7.toNat)) (c := 0) (e := (eI .i64)) (l := r3) (a := a9) (d := .lit (.int .i64 a9)) (by kernel_rfl) (by kernel_rfl) (by kernel_rfl) (by kernel_rfl) (lget_some h10).2 (by kernel_rfl)) ?_
    refine AtO.val (by kernel_rfl) (val_lookup_f kb_int (fun _ => by kernel_rfl) (ek := (Value.int .i64)) (ev := (fun (x : Int) => D.lit (.int .i64 x))) (t := 77) (x := (.tmp 37)) (kx := (.tmp 41)) (s := 11) (ps := []) (l := y11_L2) (kd := .lit (.int .i64 a9)) (kv := a9) (kt := 3) (vt := 3) (v0 := 0) (by kernel_rfl) (by kernel_rfl) (by kernel_rfl) (by kernel_rfl) (by kernel_rfl) (by kernel_rfl) (by kernel_rfl) (by kernel_rfl)) ?_
    refine AtO.seg 1 (by kernel_rfl) ?_
    refine AtO.op (by kernel_rfl) (op_mapUpdate kb_int (fun _ => by kernel_rfl) (ek := (Value.int .i64)) (ev := (fun (x : Int) => D.lit (.int .i64 x))) (t := 77) (mx := (.tmp 37)) (kx := (.tmp 41)) (vx := (.tmp 43)) (s := 11) (ps := []) (l := y11_L2) (kd := .lit (.int .i64 a9)) (kv := a9) (kt := 3) (vt := 3) (v := (IntKind.wrap .i64 ((mgetD a9 y11_L2 0) + 1))) (d := .lit (.int .i64 ((IntKind.wrap .i64 ((mgetD a9 y11_L2 0) + 1))))) (by kernel_rfl) (by kernel_rfl) (by kernel_rfl) (by kernel_rfl) (by kernel_rfl) (by kernel_rfl) (by kernel_rfl) (by kernel_rfl) (by kernel_rfl) (setG_eq (by kernel_rfl))) ?_
    refine AtO.go (p' := [1, 1, 1, 1, 0, 1, 0, 0, 1, 1, 0, 0, 1, 1, 1, 0, 1, 0, 0, 1, 1, 0, 0, 1, 1]) (F' := [(0, .agg [.lit (.int .i64 x0.Rows), .sl (x0.Classes.map (eSl (eI .i64)))]), (2, .box [.lit (.int .i64 x0.Rows), .sl (x0.Classes.map (eSl (eI .i64)))]), (7, .own (r3.map (eI .i64))), (8, .lit (.int .i64 y8_L2)), (10, .sl (a5.map (eI .i64))), (11, (eMap (Value.int .i64) (fun (x : Int) => D.lit (.int .i64 x)) ((mset a9 (IntKind.wrap .i64 ((mgetD a9 y11_L2 0) + 1)) y11_L2)))), (12, .lit (.int .i64 y12_L2)), (14, .lit (.int .i64 a7)), (24, .sl (x0.Classes.map (eSl (eI .i64)))), (25, .lit (.int .i64 ((x0.Classes.length : Int)))), (26, .lit (.int .i64 y26_L2)), (31, .sl (a5.map (eI .i64))), (32, .lit (.int .i64 ((a5.length : Int)))), (33, .lit (.int .i64 y33_L2))]) 0 (by kernel_rfl) (by kernel_rfl) ?_
    refine Pt.reg (by kernel_rfl) ?_
    refine AtO.seg 4 (by kernel_rfl) ?_
    refine AtO.val (by kernel_rfl) (val_idx_ow (s := 7) (ps := []) (t := 38) (x := (.tmp 46)) (ix := (.tmp 47)) (et := 3) (k := 1) (e := (eI .i64)) (l := r3) (i := a7) (q := .i64) (a := a9) (by kernel_rfl) (by kernel_rfl) (by kernel_rfl) (by kernel_rfl) (by kernel_rfl) (by kernel_rfl) h10 (by kernel_rfl)) ?_
    refine AtO.val (by kernel_rfl) (val_load_ow (t := 3) (x := (.tmp 48)) (s := 7) (ps := []) (n := (a7.toNat)) (c := 0) (e := (eI .i64)) (l := r3) (a := a9) (d := .lit (.int .i64 a9)) (by kernel_rfl) (by kernel_rfl) (by kernel_rfl) (by kernel_rfl) (lget_some h10).2 (by kernel_rfl)) ?_
    refine AtO.val (by kernel_rfl) (val_lookup_f kb_int (fun _ => by kernel_rfl) (ek := (Value.int .i64)) (ev := (fun (x : Int) => D.lit (.int .i64 x))) (t := 77) (x := (.tmp 45)) (kx := (.tmp 49)) (s := 11) (ps := []) (l := (mset a9 (IntKind.wrap .i64 ((mgetD a9 y11_L2 0) + 1)) y11_L2)) (kd := .lit (.int .i64 a9)) (kv := a9) (kt := 3) (vt := 3) (v0 := 0) (by kernel_rfl) (by kernel_rfl) (by kernel_rfl) (by kernel_rfl) (by kernel_rfl) (by kernel_rfl) (by kernel_rfl) (by kernel_rfl)) ?_
    refine AtO.seg 2 (by kernel_rfl) ?_
    refine AtO.go (p' := [1, 1, 1, 1, 0, 1, 0, 0, 1, 1, 0, 0, 1, 1, 1, 0, 1, 0, 0, 1, 1, 1]) (F' := [(0, .agg [.lit (.int .i64 x0.Rows), .sl (x0.Classes.map (eSl (eI .i64)))]), (2, .box [.lit (.int .i64 x0.Rows), .sl (x0.Classes.map (eSl (eI .i64)))]), (7, .own (r3.map (eI .i64))), (8, .lit (.int .i64 y8_L2)), (10, .sl (a5.map (eI .i64))), (11, (eMap (Value.int .i64) (fun (x : Int) => D.lit (.int .i64 x)) ((mset a9 (IntKind.wrap .i64 ((mgetD a9 y11_L2 0) + 1)) y11_L2)))), (12, .lit (.int .i64 ((imax y12_L2 (mgetD a9 (mset a9 (IntKind.wrap .i64 ((mgetD a9 y11_L2 0) + 1)) y11_L2) 0))))), (24, .sl (x0.Classes.map (eSl (eI .i64)))), (25, .lit (.int .i64 ((x0.Classes.length : Int)))), (26, .lit (.int .i64 y26_L2)), (31, .sl (a5.map (eI .i64))), (32, .lit (.int .i64 ((a5.length : Int)))), (33, .lit (.int .i64 y33_L2))]) 0 (by kernel_rfl) (by kernel_rfl) ?_
    refine Pt.reg (by kernel_rfl) ?_
    refine AtO.seg 2 (by kernel_rfl) ?_
    refine AtO.go (p' := [1, 1, 1, 1, 0, 1, 0, 0, 1, 1, 0, 0, 1, 1, 1, 0, 1, 0]) (F' := [(0, .agg [.lit (.int .i64 x0.Rows), .sl (x0.Classes.map (eSl (eI .i64)))]), (2, .box [.lit (.int .i64 x0.Rows), .sl (x0.Classes.map (eSl (eI .i64)))]), (7, .own (r3.map (eI .i64))), (8, .lit (.int .i64 y8_L2)), (10, .sl (a5.map (eI .i64))), (11, (eMap (Value.int .i64) (fun (x : Int) => D.lit (.int .i64 x)) ((mset a9 (IntKind.wrap .i64 ((mgetD a9 y11_L2 0) + 1)) y11_L2)))), (12, .lit (.int .i64 ((imax y12_L2 (mgetD a9 (mset a9 (IntKind.wrap .i64 ((mgetD a9 y11_L2 0) + 1)) y11_L2) 0))))), (24, .sl (x0.Classes.map (eSl (eI .i64)))), (25, .lit (.int .i64 ((x0.Classes.length : Int)))), (26, .lit (.int .i64 y26_L2)), (31, .sl (a5.map (eI .i64))), (32, .lit (.int .i64 ((a5.length : Int)))), (33, .lit (.int .i64 ((IntKind.wrap .i64 (y33_L2 + 1)))))]) 0 (by kernel_rfl) (by kernel_rfl) ?_
    exact h
  · have h := ite_f h (of_decide_eq_false hc)
    refine AtO.go (p' := [1, 1, 1, 1, 0, 1, 0, 0, 1, 1, 0, 0, 1, 1, 1, 1]) (F' := [(0, .agg [.lit (.int .i64 x0.Rows), .sl (x0.Classes.map (eSl (eI .i64)))]), (2, .box [.lit (.int .i64 x0.Rows), .sl (x0.Classes.map (eSl (eI .i64)))]), (7, .own (r3.map (eI .i64))), (8, .lit (.int .i64 y8_L2)), (10, .sl (a5.map (eI .i64))), (12, .lit (.int .i64 y12_L2)), (24, .sl (x0.Classes.map (eSl (eI .i64)))), (25, .lit (.int .i64 ((x0.Classes.length : Int)))), (26, .lit (.int .i64 y26_L2))]) 2 (by kernel_rfl) (by kernel_rfl) ?_
    refine Pt.reg (by kernel_rfl) ?_
    refine AtO.seg 2 (by kernel_rfl) ?_
    refine AtO.val (by kernel_rfl) (val_len (x := (.tmp 54)) (t := 38) (et := 3) (d := .sl (a5.map (eI .i64))) (e := (eI .i64)) (l := a5) (by kernel_rfl) (by kernel_rfl) elemsOf_sl (by kernel_rfl)) ?_
    refine AtO.seg 4 (by kernel_rfl) ?_
    refine AtO.go (p' := [1, 1, 1, 1, 0, 1, 0, 0, 1, 1, 1]) (F' := [(0, .agg [.lit (.int .i64 x0.Rows), .sl (x0.Classes.map (eSl (eI .i64)))]), (2, .box [.lit (.int .i64 x0.Rows), .sl (x0.Classes.map (eSl (eI .i64)))]), (7, .own (r3.map (eI .i64))), (8, .lit (.int .i64 ((IntKind.wrap .i64 (y8_L2 + (IntKind.wrap .i64 ((a5.length : Int) - y12_L2))))))), (24, .sl (x0.Classes.map (eSl (eI .i64)))), (25, .lit (.int .i64 ((x0.Classes.length : Int)))), (26, .lit (.int .i64 y26_L2))]) 0 (by kernel_rfl) (by kernel_rfl) ?_
    refine Pt.reg (by kernel_rfl) ?_
    refine AtO.seg 2 (by kernel_rfl) ?_
    refine AtO.go (p' := [1, 1, 1, 1, 0, 1, 0]) (F' := [(0, .agg [.lit (.int .i64 x0.Rows), .sl (x0.Classes.map (eSl (eI .i64)))]), (2, .box [.lit (.int .i64 x0.Rows), .sl (x0.Classes.map (eSl (eI .i64)))]), (7, .own (r3.map (eI .i64))), (8, .lit (.int .i64 ((IntKind.wrap .i64 (y8_L2 + (IntKind.wrap .i64 ((a5.length : Int) - y12_L2))))))), (24, .sl (x0.Classes.map (eSl (eI .i64)))), (25, .lit (.int .i64 ((x0.Classes.length : Int)))), (26, .lit (.int .i64 ((IntKind.wrap .i64 (y26_L2 + 1)))))]) 0 (by kernel_rfl) (by kernel_rfl) ?_
    exact h
theorem enter (x0 : api_Partition) (x1 : api_Partition) (φ : Int × Int → Prop) (h :
    ∃ r1 : Int, partition_both.C x0 x1 r1 ∧
    (if r1 = 0 then
      ∃ r3 : List Int, partition_labels.C x1 r3 ∧
      partition_Removal.L1 x0 r3 0 0 φ
    else
      φ ((0, r1)))) : ∃ r, φ r ∧ C x0 x1 r := by
  refine Ret.of_at (E := env) (f := 23) (fd := Tryd.f23) (body := B) (p := [0]) (V := W) (F := [(0, .agg [.lit (.int .i64 x0.Rows), .sl (x0.Classes.map (eSl (eI .i64)))]), (1, .agg [.lit (.int .i64 x1.Rows), .sl (x1.Classes.map (eSl (eI .i64)))]), (2, .undef), (3, .undef), (4, .undef), (5, .undef), (6, .undef), (7, .undef), (8, .undef), (10, .undef), (11, .undef), (12, .undef), (14, .undef), (19, .undef), (24, .undef), (25, .undef), (26, .undef), (27, .undef), (31, .undef), (32, .undef), (33, .undef), (34, .undef)]) (res := res) (φ := φ) (ds := [.agg [.lit (.int .i64 x0.Rows), .sl (x0.Classes.map (eSl (eI .i64)))], .agg [.lit (.int .i64 x1.Rows), .sl (x1.Classes.map (eSl (eI .i64)))]]) (by kernel_rfl) (by kernel_rfl) (by kernel_rfl) ⟨Nat.le_of_ble_eq_true (by kernel_rfl), Nat.le_of_ble_eq_true (by kernel_rfl)⟩ (by kernel_rfl) (by kernel_rfl) (by kernel_rfl) ?_
  refine Pt.reg (by kernel_rfl) ?_
  refine AtO.seg 4 (by kernel_rfl) ?_
  refine AtO.go (p' := [1, 0, 0]) (F' := [(0, .agg [.lit (.int .i64 x0.Rows), .sl (x0.Classes.map (eSl (eI .i64)))]), (1, .agg [.lit (.int .i64 x1.Rows), .sl (x1.Classes.map (eSl (eI .i64)))]), (2, .box [.lit (.int .i64 x0.Rows), .sl (x0.Classes.map (eSl (eI .i64)))]), (3, .box [.lit (.int .i64 x1.Rows), .sl (x1.Classes.map (eSl (eI .i64)))])]) 0 (by kernel_rfl) (by kernel_rfl) ?_
  refine Pt.reg (by kernel_rfl) ?_
  obtain ⟨r1, h2, h⟩ := h
  refine AtO.seg 2 (by kernel_rfl) ?_
  refine AtO.call0 (x := (.func 40)) (g := 40) (caps := []) (agl := [.opn (.tmp 15), .opn (.tmp 16)]) (ds := [.agg [.lit (.int .i64 x0.Rows), .sl (x0.Classes.map (eSl (eI .i64)))], .agg [.lit (.int .i64 x1.Rows), .sl (x1.Classes.map (eSl (eI .i64)))]]) (r := .lit (.int .i64 r1)) (r' := .lit (.int .i64 r1)) (ms := [none, none]) (by kernel_rfl) (by kernel_rfl) (by kernel_rfl) (by kernel_rfl) (by kernel_rfl) (by kernel_rfl) (pass_snap (a := .opn (.tmp 15)) (d0 := .agg [.lit (.int .i64 x0.Rows), .sl (x0.Classes.map (eSl (eI .i64)))]) (d := .agg [.lit (.int .i64 x0.Rows), .sl (x0.Classes.map (eSl (eI .i64)))]) (by kernel_rfl) (by kernel_rfl) (by kernel_rfl) (pass_snap (a := .opn (.tmp 16)) (d0 := .agg [.lit (.int .i64 x1.Rows), .sl (x1.Classes.map (eSl (eI .i64)))]) (d := .agg [.lit (.int .i64 x1.Rows), .sl (x1.Classes.map (eSl (eI .i64)))]) (by kernel_rfl) (by kernel_rfl) (by kernel_rfl) pass_nil)) h2 rfl (by kernel_rfl) ?_
  refine AtO.seg 1 (by kernel_rfl) ?_
  refine AtO.go (p' := [1, 0, 1, 0]) (F' := [(0, .agg [.lit (.int .i64 x0.Rows), .sl (x0.Classes.map (eSl (eI .i64)))]), (1, .agg [.lit (.int .i64 x1.Rows), .sl (x1.Classes.map (eSl (eI .i64)))]), (2, .box [.lit (.int .i64 x0.Rows), .sl (x0.Classes.map (eSl (eI .i64)))]), (3, .box [.lit (.int .i64 x1.Rows), .sl (x1.Classes.map (eSl (eI .i64)))]), (6, .lit (.int .i64 r1))]) 0 (by kernel_rfl) (by kernel_rfl) ?_
  refine Pt.reg (by kernel_rfl) ?_
  refine AtO.seg 1 (by kernel_rfl) ?_
  refine AtO.bool (b := (r1 != 0)) (by kernel_rfl) (by kernel_rfl) (fun hc => ?_) (fun hc => ?_)
  · have h := ite_f h (bne_t hc)
    refine AtO.go (p' := [1, 0, 1, 1, 0, 0]) (F' := [(6, .lit (.int .i64 r1))]) 1 (by kernel_rfl) (by kernel_rfl) ?_
    refine Pt.reg (by kernel_rfl) ?_
    refine AtO.seg 3 (by kernel_rfl) ?_
    refine AtO.go (p' := [1, 0, 1, 1, 0, 1]) (F' := [(4, .lit (.int .i64 0)), (5, .lit (.int .i64 r1))]) 0 (by kernel_rfl) (by kernel_rfl) ?_
    exact Pt.ret ((0, r1)) (by kernel_rfl) (by kernel_rfl) h
  · have h := ite_t h (bne_f hc)
    refine AtO.go (p' := [1, 1, 0]) (F' := [(0, .agg [.lit (.int .i64 x0.Rows), .sl (x0.Classes.map (eSl (eI .i64)))]), (1, .agg [.lit (.int .i64 x1.Rows), .sl (x1.Classes.map (eSl (eI .i64)))]), (2, .box [.lit (.int .i64 x0.Rows), .sl (x0.Classes.map (eSl (eI .i64)))]), (3, .box [.lit (.int .i64 x1.Rows), .sl (x1.Classes.map (eSl (eI .i64)))])]) 2 (by kernel_rfl) (by kernel_rfl) ?_
    refine Pt.reg (by kernel_rfl) ?_
    obtain ⟨r3, h4, h⟩ := h
    refine AtO.seg 1 (by kernel_rfl) ?_
    refine AtO.call0 (x := (.func 41)) (g := 41) (caps := []) (agl := [.opn (.tmp 21)]) (ds := [.agg [.lit (.int .i64 x1.Rows), .sl (x1.Classes.map (eSl (eI .i64)))]]) (r := .own (r3.map (eI .i64))) (r' := .own (r3.map (eI .i64))) (ms := [none]) (by kernel_rfl) (by kernel_rfl) (by kernel_rfl) (by kernel_rfl) (by kernel_rfl) (by kernel_rfl) (pass_snap (a := .opn (.tmp 21)) (d0 := .agg [.lit (.int .i64 x1.Rows), .sl (x1.Classes.map (eSl (eI .i64)))]) (d := .agg [.lit (.int .i64 x1.Rows), .sl (x1.Classes.map (eSl (eI .i64)))]) (by kernel_rfl) (by kernel_rfl) (by kernel_rfl) pass_nil) h4 (flat_ow (e := (eI .i64)) (fun _ => rfl)) (by kernel_rfl) ?_
    refine AtO.seg 1 (by kernel_rfl) ?_
    refine AtO.go (p' := [1, 1, 1, 0]) (F' := [(0, .agg [.lit (.int .i64 x0.Rows), .sl (x0.Classes.map (eSl (eI .i64)))]), (2, .box [.lit (.int .i64 x0.Rows), .sl (x0.Classes.map (eSl (eI .i64)))]), (7, .own (r3.map (eI .i64)))]) 0 (by kernel_rfl) (by kernel_rfl) ?_
    refine Pt.reg (by kernel_rfl) ?_
    refine AtO.seg 1 (by kernel_rfl) ?_
    refine AtO.go (p' := [1, 1, 1, 1, 0, 0]) (F' := [(0, .agg [.lit (.int .i64 x0.Rows), .sl (x0.Classes.map (eSl (eI .i64)))]), (2, .box [.lit (.int .i64 x0.Rows), .sl (x0.Classes.map (eSl (eI .i64)))]), (7, .own (r3.map (eI .i64))), (8, .lit (.int .i64 0))]) 0 (by kernel_rfl) (by kernel_rfl) ?_
    refine Pt.reg (by kernel_rfl) ?_
    refine AtO.seg 2 (by kernel_rfl) ?_
    refine AtO.val (by kernel_rfl) (val_len (x := (.tmp 24)) (t := 29) (et := 38) (d := .sl (x0.Classes.map (eSl (eI .i64)))) (e := (eSl (eI .i64))) (l := x0.Classes) (by kernel_rfl) (by kernel_rfl) elemsOf_sl (by kernel_rfl)) ?_
    refine AtO.seg 1 (by kernel_rfl) ?_
    refine AtO.go (p' := [1, 1, 1, 1, 0, 1, 0]) (F' := [(0, .agg [.lit (.int .i64 x0.Rows), .sl (x0.Classes.map (eSl (eI .i64)))]), (2, .box [.lit (.int .i64 x0.Rows), .sl (x0.Classes.map (eSl (eI .i64)))]), (7, .own (r3.map (eI .i64))), (8, .lit (.int .i64 0)), (24, .sl (x0.Classes.map (eSl (eI .i64)))), (25, .lit (.int .i64 ((x0.Classes.length : Int)))), (26, .lit (.int .i64 0))]) 0 (by kernel_rfl) (by kernel_rfl) ?_
    exact h
end partition_Removal
end Go.Own

namespace Go.Own
open Go.Proofs D
set_option maxRecDepth 100000
set_option maxHeartbeats 4000000
namespace drossref08_Removal
noncomputable def B : Code := (Tryd.f24.body).getD .skip
def W : List Nat := [0, 1, 2, 3, 4, 5, 6, 7, 8, 9, 10, 11, 12, 13, 21, 26, 33, 44, 50, 67]
def res (r : Int × Int) : D × List D := (.tup [.lit (.int .i64 r.1), .lit (.int .i64 r.2)], [])
def C (x0 : api_Partition) (x1 : api_Partition) (r : Int × Int) : Prop := Ret env 24 [.agg [.lit (.int .i64 x0.Rows), .sl (x0.Classes.map (eSl (eI .i64)))], .agg [.lit (.int .i64 x1.Rows), .sl (x1.Classes.map (eSl (eI .i64)))]] (res r).1 (res r).2
def L1 (x0 : api_Partition) (r5 : List Int) (y7_L1 : Int) (y8_L1 : Int) (φ : Int × Int → Prop) : Prop := Pt env 24 W B [1, 1, 1, 1, 1, 0, 1, 0] [(0, .agg [.lit (.int .i64 x0.Rows), .sl (x0.Classes.map (eSl (eI .i64)))]), (2, .box [.lit (.int .i64 x0.Rows), .sl (x0.Classes.map (eSl (eI .i64)))]), (6, .own (r5.map (eI .i64))), (7, .lit (.int .i64 y7_L1)), (8, .lit (.int .i64 y8_L1))] (Lv env 24 Tryd.f24 2 res φ)
def L2 (x0 : api_Partition) (r5 : List Int) (y7_L2 : Int) (y8_L2 : Int) (a7 : List Int) (y10_L2 : Int) (y11_L2 : Int) (φ : Int × Int → Prop) : Prop := Pt env 24 W B [1, 1, 1, 1, 1, 0, 1, 0, 0, 1, 0, 0, 1, 1, 0, 1, 0] [(0, .agg [.lit (.int .i64 x0.Rows), .sl (x0.Classes.map (eSl (eI .i64)))]), (2, .box [.lit (.int .i64 x0.Rows), .sl (x0.Classes.map (eSl (eI .i64)))]), (6, .own (r5.map (eI .i64))), (7, .lit (.int .i64 y7_L2)), (8, .lit (.int .i64 y8_L2)), (9, .sl (a7.map (eI .i64))), (10, .lit (.int .i64 y10_L2)), (11, .lit (.int .i64 y11_L2))] (Lv env 24 Tryd.f24 2 res φ)
def L3 (x0 : api_Partition) (r5 : List Int) (y7_L3 : Int) (y8_L3 : Int) (a7 : List Int) (y10_L3 : Int) (y11_L3 : Int) (y12_L3 : Int) (y13_L3 : Int) (φ : Int × Int → Prop) : Prop := Pt env 24 W B [1, 1, 1, 1, 1, 0, 1, 0, 0, 1, 0, 0, 1, 1, 0, 1, 0, 0, 1, 0, 0, 1, 0, 1, 0] [(0, .agg [.lit (.int .i64 x0.Rows), .sl (x0.Classes.map (eSl (eI .i64)))]), (2, .box [.lit (.int .i64 x0.Rows), .sl (x0.Classes.map (eSl (eI .i64)))]), (6, .own (r5.map (eI .i64))), (7, .lit (.int .i64 y7_L3)), (8, .lit (.int .i64 y8_L3)), (9, .sl (a7.map (eI .i64))), (10, .lit (.int .i64 y10_L3)), (11, .lit (.int .i64 y11_L3)), (12, .lit (.int .i64 y12_L3)), (13, .lit (.int .i64 y13_L3))] (Lv env 24 Tryd.f24 2 res φ)
def L4 (x0 : api_Partition) (r5 : List Int) (y7_L3 : Int) (y8_L3 : Int) (a7 : List Int) (y10_L4 : Int) (y11_L4 : Int) (y12_L4 : Int) (y13_L3 : Int) (φ : Int × Int → Prop) : Prop := Pt env 24 W B [1, 1, 1, 1, 1, 0, 1, 0, 0, 1, 0, 0, 1, 1, 0, 1, 0, 0, 1, 0, 0, 1, 0, 1, 0, 0, 1, 1] [(0, .agg [.lit (.int .i64 x0.Rows), .sl (x0.Classes.map (eSl (eI .i64)))]), (2, .box [.lit (.int .i64 x0.Rows), .sl (x0.Classes.map (eSl (eI .i64)))]), (6, .own (r5.map (eI .i64))), (7, .lit (.int .i64 y7_L3)), (8, .lit (.int .i64 y8_L3)), (9, .sl (a7.map (eI .i64))), (10, .lit (.int .i64 y10_L4)), (11, .lit (.int .i64 y11_L4)), (12, .lit (.int .i64 y12_L4)), (13, .lit (.int .i64 y13_L3))] (Lv env 24 Tryd.f24 2 res φ)
theorem L1_step (x0 : api_Partition) (r5 : List Int) (y7_L1 : Int) (y8_L1 : Int) (φ : Int × Int → Prop) (h :
    (if y8_L1 < (x0.Classes.length : Int) then
      ∃ a7, lget x0.Classes y8_L1 = some a7 ∧
      drossref08_Removal.L2 x0 r5 y7_L1 y8_L1 a7 0 0 φ
    else
      φ ((y7_L1, 0)))) : L1 x0 r5 y7_L1 y8_L1 φ := by
  unfold L1
  refine Pt.loop (p' := [1, 1, 1, 1, 1, 0, 1, 0, 0, 0, 0]) (by kernel_rfl) (by kernel_rfl) ?_
  refine Pt.reg (by kernel_rfl) ?_
  refine AtO.seg 3 (by kernel_rfl) ?_
  refine AtO.val (by kernel_rfl) (val_len (x := (.tmp 31)) (t := 29) (et := 38) (d := .sl (x0.Classes.map (eSl (eI .i64)))) (e := (eSl (eI .i64))) (l := x0.Classes) (by kernel_rfl) (by kernel_rfl) elemsOf_sl (by kernel_rfl)) ?_
  refine AtO.bool (b := (decide (y8_L1 < (x0.Classes.length : Int)))) (by kernel_rfl) (by kernel_rfl) (fun hc => ?_) (fun hc => ?_)
  · have h := ite_t h (of_decide_eq_true hc)
    refine AtO.go (p' := [1, 1, 1, 1, 1, 0, 1, 0, 0, 1, 0, 0, 0]) (F' := [(0, .agg [.lit (.int .i64 x0.Rows), .sl (x0.Classes.map (eSl (eI .i64)))]), (2, .box [.lit (.int .i64 x0.Rows), .sl (x0.Classes.map (eSl (eI .i64)))]), (6, .own (r5.map (eI .i64))), (7, .lit (.int .i64 y7_L1)), (8, .lit (.int .i64 y8_L1))]) 2 (by kernel_rfl) (by kernel_rfl) ?_
    refine Pt.reg (by kernel_rfl) ?_
    obtain ⟨a7, h8, h⟩ := h
    refine AtO.seg 3 (by kernel_rfl) ?_
    refine AtO.val (by kernel_rfl) (val_idx_sl (t := 29) (x := (.tmp 37)) (ix := (.tmp 38)) (et := 38) (k := 1) (e := (eSl (eI .i64))) (l := x0.Classes) (i := y8_L1) (q := .i64) (a := a7) (by kernel_rfl) (by kernel_rfl) (by kernel_rfl) (by kernel_rfl) (by kernel_rfl) h8 (by kernel_rfl)) ?_
    refine AtO.seg 2 (by kernel_rfl) ?_
    refine AtO.go (p' := [1, 1, 1, 1, 1, 0, 1, 0, 0, 1, 0, 0, 1, 0]) (F' := [(0, .agg [.lit (.int .i64 x0.Rows), .sl (x0.Classes.map (eSl (eI .i64)))]), (2, .box [.lit (.int .i64 x0.Rows), .sl (x0.Classes.map (eSl (eI .i64)))]), (6, .own (r5.map (eI .i64))), (7, .lit (.int .i64 y7_L1)), (8, .lit (.int .i64 y8_L1)), (9, .sl (a7.map (eI .i64)))]) 0 (by kernel_rfl) (by kernel_rfl) ?_
    refine Pt.reg (by kernel_rfl) ?_
    refine AtO.seg 1 (by kernel_rfl) ?_
    refine AtO.go (p' := [1, 1, 1, 1, 1, 0, 1, 0, 0, 1, 0, 0, 1, 1, 0, 0]) (F' := [(0, .agg [.lit (.int .i64 x0.Rows), .sl (x0.Classes.map (eSl (eI .i64)))]), (2, .box [.lit (.int .i64 x0.Rows), .sl (x0.Classes.map (eSl (eI .i64)))]), (6, .own (r5.map (eI .i64))), (7, .lit (.int .i64 y7_L1)), (8, .lit (.int .i64 y8_L1)), (9, .sl (a7.map (eI .i64))), (10, .lit (.int .i64 0))]) 0 (by kernel_rfl) (by kernel_rfl) ?_
    refine Pt.reg (by kernel_rfl) ?_
    refine AtO.seg 1 (by kernel_rfl) ?_
    refine AtO.go (p' := [1, 1, 1, 1, 1, 0, 1, 0, 0, 1, 0, 0, 1, 1, 0, 1, 0]) (F' := [(0, .agg [.lit (.int .i64 x0.Rows), .sl (x0.Classes.map (eSl (eI .i64)))]), (2, .box [.lit (.int .i64 x0.Rows), .sl (x0.Classes.map (eSl (eI .i64)))]), (6, .own (r5.map (eI .i64))), (7, .lit (.int .i64 y7_L1)), (8, .lit (.int .i64 y8_L1)), (9, .sl (a7.map (eI .i64))), (10, .lit (.int .i64 0)), (11, .lit (.int .i64 0))]) 0 (by kernel_rfl) (by kernel_rfl) ?_
    exact h
  · have h := ite_f h (of_decide_eq_false hc)
    refine AtO.go (p' := [1, 1, 1, 1, 1, 1, 0]) (F' := [(7, .lit (.int .i64 y7_L1))]) 2 (by kernel_rfl) (by kernel_rfl) ?_
    refine Pt.reg (by kernel_rfl) ?_
    refine AtO.seg 3 (by kernel_rfl) ?_
    refine AtO.go (p' := [1, 1, 1, 1, 1, 1, 1]) (F' := [(4, .lit (.int .i64 y7_L1)), (5, .lit (.int .i64 0))]) 0 (by kernel_rfl) (by kernel_rfl) ?_
    exact Pt.ret ((y7_L1, 0)) (by kernel_rfl) (by kernel_rfl) h
theorem L2_step (x0 : api_Partition) (r5 : List Int) (y7_L2 : Int) (y8_L2 : Int) (a7 : List Int) (y10_L2 : Int) (y11_L2 : Int) (φ : Int × Int → Prop) (h :
    (if y11_L2 < (a7.length : Int) then
      drossref08_Removal.L3 x0 r5 y7_L2 y8_L2 a7 y10_L2 y11_L2 0 0 φ
    else
      drossref08_Removal.L1 x0 r5 ((IntKind.wrap .i64 ((IntKind.wrap .i64 (y7_L2 + (a7.length : Int))) - y10_L2))) ((IntKind.wrap .i64 (y8_L2 + 1))) φ)) : L2 x0 r5 y7_L2 y8_L2 a7 y10_L2 y11_L2 φ := by
  unfold L2
  refine Pt.loop (p' := [1, 1, 1, 1, 1, 0, 1, 0, 0, 1, 0, 0, 1, 1, 0, 1, 0, 0, 0, 0]) (by kernel_rfl) (by kernel_rfl) ?_
  refine Pt.reg (by kernel_rfl) ?_
  refine AtO.seg 2 (by kernel_rfl) ?_
  refine AtO.val (by kernel_rfl) (val_len (x := (.tmp 42)) (t := 38) (et := 3) (d := .sl (a7.map (eI .i64))) (e := (eI .i64)) (l := a7) (by kernel_rfl) (by kernel_rfl) elemsOf_sl (by kernel_rfl)) ?_
  refine AtO.bool (b := (decide (y11_L2 < (a7.length : Int)))) (by kernel_rfl) (by kernel_rfl) (fun hc => ?_) (fun hc => ?_)
  · have h := ite_t h (of_decide_eq_true hc)
    refine AtO.go (p' := [1, 1, 1, 1, 1, 0, 1, 0, 0, 1, 0, 0, 1, 1, 0, 1, 0, 0, 1, 0, 0, 0]) (F' := [(0, .agg [.lit (.int .i64 x0.Rows), .sl (x0.Classes.map (eSl (eI .i64)))]), (2, .box [.lit (.int .i64 x0.Rows), .sl (x0.Classes.map (eSl (eI .i64)))]), (6, .own (r5.map (eI .i64))), (7, .lit (.int .i64 y7_L2)), (8, .lit (.int .i64 y8_L2)), (9, .sl (a7.map (eI .i64))), (10, .lit (.int .i64 y10_L2)), (11, .lit (.int .i64 y11_L2))]) 2 (by kernel_rfl) (by kernel_rfl) ?_
    refine Pt.reg (by kernel_rfl) ?_
    refine AtO.seg 1 (by kernel_rfl) ?_
    refine AtO.go (p' := [1, 1, 1, 1, 1, 0, 1, 0, 0, 1, 0, 0, 1, 1, 0, 1, 0, 0, 1, 0, 0, 1, 0, 0]) (F' := [(0, .agg [.lit (.int .i64 x0.Rows), .sl (x0.Classes.map (eSl (eI .i64)))]), (2, .box [.lit (.int .i64 x0.Rows), .sl (x0.Classes.map (eSl (eI .i64)))]), (6, .own (r5.map (eI .i64))), (7, .lit (.int .i64 y7_L2)), (8, .lit (.int .i64 y8_L2)), (9, .sl (a7.map (eI .i64))), (10, .lit (.int .i64 y10_L2)), (11, .lit (.int .i64 y11_L2)), (12, .lit (.int .i64 0))]) 0 (by kernel_rfl) (by kernel_rfl) ?_
    refine Pt.reg (by kernel_rfl) ?_
    refine AtO.seg 1 (by kernel_rfl) ?_
    refine AtO.go (p' := [1, 1, 1, 1, 1, 0, 1, 0, 0, 1, 0, 0, 1, 1, 0, 1, 0, 0, 1, 0, 0, 1, 0, 1, 0]) (F' := [(0, .agg [.lit (.int .i64 x0.Rows), .sl (x0.Classes.map (eSl (eI .i64)))]), (2, .box [.lit (.int .i64 x0.Rows), .sl (x0.Classes.map (eSl (eI .i64)))]), (6, .own (r5.map (eI .i64))), (7, .lit (.int .i64 y7_L2)), (8, .lit (.int .i64 y8_L2)), (9, .sl (a7.map (eI .i64))), (10, .lit (.int .i64 y10_L2)), (11, .lit (.int .i64 y11_L2)), (12, .lit (.int .i64 0)), (13, .lit (.int .i64 0))]) 0 (by kernel_rfl) (by kernel_rfl) ?_
    exact h
  · have h := ite_f h (of_decide_eq_false hc)
    refine AtO.go (p' := [1, 1, 1, 1, 1, 0, 1, 0, 0, 1, 0, 0, 1, 1, 1]) (F' := [(0, .agg [.lit (.int .i64 x0.Rows), .sl (x0.Classes.map (eSl (eI .i64)))]), (2, .box [.lit (.int .i64 x0.Rows), .sl (x0.Classes.map (eSl (eI .i64)))]), (6, .own (r5.map (eI .i64))), (7, .lit (.int .i64 y7_L2)), (8, .lit (.int .i64 y8_L2)), (9, .sl (a7.map (eI .i64))), (10, .lit (.int .i64 y10_L2))]) 2 (by kernel_rfl) (by kernel_rfl) ?_
    refine Pt.reg (by kernel_rfl) ?_
    refine AtO.seg 2 (by kernel_rfl) ?_
    refine AtO.val (by kernel_rfl) (val_len (x := (.tmp 74)) (t := 38) (et := 3) (d := .sl (a7.map (eI .i64))) (e := (eI .i64)) (l := a7) (by kernel_rfl) (by kernel_rfl) elemsOf_sl (by kernel_rfl)) ?_
    refine AtO.seg 4 (by kernel_rfl) ?_
    refine AtO.go (p' := [1, 1, 1, 1, 1, 0, 1, 0, 0, 1, 1]) (F' := [(0, .agg [.lit (.int .i64 x0.Rows), .sl (x0.Classes.map (eSl (eI .i64)))]), (2, .box [.lit (.int .i64 x0.Rows), .sl (x0.Classes.map (eSl (eI .i64)))]), (6, .own (r5.map (eI .i64))), (7, .lit (.int .i64 ((IntKind.wrap .i64 ((IntKind.wrap .i64 (y7_L2 + (a7.length : Int))) - y10_L2))))), (8, .lit (.int .i64 y8_L2))]) 0 (by kernel_rfl) (by kernel_rfl) ?_
    refine Pt.reg (by kernel_rfl) ?_
    refine AtO.seg 3 (by kernel_rfl) ?_
    refine AtO.go (p' := [1, 1, 1, 1, 1, 0, 1, 0]) (F' := [(0, .agg [.lit (.int .i64 x0.Rows), .sl (x0.Classes.map (eSl (eI .i64)))]), (2, .box [.lit (.int .i64 x0.Rows), .sl (x0.Classes.map (eSl (eI .i64)))]), (6, .own (r5.map (eI .i64))), (7, .lit (.int .i64 ((IntKind.wrap .i64 ((IntKind.wrap .i64 (y7_L2 + (a7.length : Int))) - y10_L2))))), (8, .lit (.int .i64 ((IntKind.wrap .i64 (y8_L2 + 1)))))]) 0 (by kernel_rfl) (by kernel_rfl) ?_
    exact h
theorem L3_step (x0 : api_Partition) (r5 : List Int) (y7_L3 : Int) (y8_L3 : Int) (a7 : List Int) (y10_L3 : Int) (y11_L3 : Int) (y12_L3 : Int) (y13_L3 : Int) (φ : Int × Int → Prop) (h :
    (if y13_L3 < (a7.length : Int) then
      ∃ a9, lget a7 y13_L3 = some a9 ∧
      ∃ a11, lget r5 a9 = some a11 ∧
      ∃ a13, lget a7 y11_L3 = some a13 ∧
      ∃ a15, lget r5 a13 = some a15 ∧
      (if a11 = a15 then
        drossref08_Removal.L4 x0 r5 y7_L3 y8_L3 a7 y10_L3 y11_L3 ((IntKind.wrap .i64 (y12_L3 + 1))) y13_L3 φ
      else
        drossref08_Removal.L4 x0 r5 y7_L3 y8_L3 a7 y10_L3 y11_L3 y12_L3 y13_L3 φ)
    else
      drossref08_Removal.L2 x0 r5 y7_L3 y8_L3 a7 ((imax y10_L3 y12_L3)) ((IntKind.wrap .i64 (y11_L3 + 1))) φ)) : L3 x0 r5 y7_L3 y8_L3 a7 y10_L3 y11_L3 y12_L3 y13_L3 φ := by
  unfold L3
  refine Pt.loop (p' := [1, 1, 1, 1, 1, 0, 1, 0, 0, 1, 0, 0, 1, 1, 0, 1, 0, 0, 1, 0, 0, 1, 0, 1, 0, 0, 0, 0]) (by kernel_rfl) (by kernel_rfl) ?_
  refine Pt.reg (by kernel_rfl) ?_
  refine AtO.seg 2 (by kernel_rfl) ?_
  refine AtO.val (by kernel_rfl) (val_len (x := (.tmp 48)) (t := 38) (et := 3) (d := .sl (a7.map (eI .i64))) (e := (eI .i64)) (l := a7) (by kernel_rfl) (by kernel_rfl) elemsOf_sl (by kernel_rfl)) ?_
  refine AtO.bool (b := (decide (y13_L3 < (a7.length : Int)))) (by kernel_rfl) (by kernel_rfl) (fun hc => ?_) (fun hc => ?_)
  · have h := ite_t h (of_decide_eq_true hc)
    refine AtO.go (p' := [1, 1, 1, 1, 1, 0, 1, 0, 0, 1, 0, 0, 1, 1, 0, 1, 0, 0, 1, 0, 0, 1, 0, 1, 0, 0, 1, 0, 0, 0]) (F' := [(0, .agg [.lit (.int .i64 x0.Rows), .sl (x0.Classes.map (eSl (eI .i64)))]), (2, .box [.lit (.int .i64 x0.Rows), .sl (x0.Classes.map (eSl (eI .i64)))]), (6, .own (r5.map (eI .i64))), (7, .lit (.int .i64 y7_L3)), (8, .lit (.int .i64 y8_L3)), (9, .sl (a7.map (eI .i64))), (10, .lit (.int .i64 y10_L3)), (11, .lit (.int .i64 y11_L3)), (12, .lit (.int .i64 y12_L3)), (13, .lit (.int .i64 y13_L3))]) 2 (by kernel_rfl) (by kernel_rfl) ?_
    refine Pt.reg (by kernel_rfl) ?_
    obtain ⟨a9, h10, h⟩ := h
    refine AtO.seg 3 (by kernel_rfl) ?_
    refine AtO.val (by kernel_rfl) (val_idx_sl (t := 38) (x := (.tmp 54)) (ix := (.tmp 55)) (et := 3) (k := 1) (e := (eI .i64)) (l := a7) (i := y13_L3) (q := .i64) (a := a9) (by kernel_rfl) (by kernel_rfl) (by kernel_rfl) (by kernel_rfl) (by kernel_rfl) h10 (by kernel_rfl)) ?_
    obtain ⟨a11, h12, h⟩ := h
    refine AtO.seg 1 (by kernel_rfl) ?_
    refine AtO.val (by kernel_rfl) (val_idx_ow (s := 6) (ps := []) (t := 38) (x := (.tmp 53)) (ix := (.tmp 57)) (et := 3) (k := 1) (e := (eI .i64)) (l := r5) (i := a9) (q := .i64) (a := a11) (by kernel_rfl) (by kernel_rfl) (by kernel_rfl) (by kernel_rfl) (by kernel_rfl) (by kernel_rfl) h12 (by kernel_rfl)) ?_
    refine AtO.val (by kernel_rfl) (val_load_ow (t := 3) (x := (.tmp 58)) (s := 6) (ps := []) (n := (a9.toNat)) (c := 0) (e := (eI .i64)) (l := r5) (a := a11) (d := .lit (.int .i64 a11)) (by kernel_rfl) (by kernel_rfl) (by kernel_rfl) (by kernel_rfl) (lget_some h12).2 (by kernel_rfl)) ?_
    obtain ⟨a13, h14, h⟩ := h
    refine AtO.seg 3 (by kernel_rfl) ?_
    refine AtO.val (by kernel_rfl) (val_idx_sl (t := 38) (x := (.tmp 61)) (ix := (.tmp 62)) (et := 3) (k := 1) (e := (eI .i64)) (l := a7) (i := y11_L3) (q := .i64) (a := a13) (by kernel_rfl) (by kernel_rfl) (by kernel_rfl) (by kernel_rfl) (by kernel_rfl) h14 (by kernel_rfl)) ?_
    obtain ⟨a15, h16, h⟩ := h
    refine AtO.seg 1 (by kernel_rfl) ?_
    refine AtO.val (by kernel_rfl) (val_idx_ow (s := 6) (ps := []) (t := 38) (x := (.tmp 60)) (ix := (.tmp 64)) (et := 3) (k := 1) (e := (eI .i64)) (l := r5) (i := a13) (q := .i64) (a := a15) (by kernel_rfl) (by kernel_rfl) (by kernel_rfl) (by kernel_rfl) (by kernel_rfl) (by kernel_rfl) h16 (by kernel_rfl)) ?_
    refine AtO.val (by kernel_rfl) (val_load_ow (t := 3) (x := (.tmp 65)) (s := 6) (ps := []) (n := (a13.toNat)) (c := 0) (e := (eI .i64)) (l := r5) (a := a15) (d := .lit (.int .i64 a15)) (by kernel_rfl) (by kernel_rfl) (by kernel_rfl) (by kernel_rfl) (lget_some h16).2 (by kernel_rfl)) ?_
    refine AtO.bool (b := (a11 == a15)) (by kernel_rfl) (by kernel_rfl) (fun hc => ?_) (fun hc => ?_)
    · have h := ite_t h (beq_t hc)
      refine AtO.go (p' := [1, 1, 1, 1, 1, 0, 1, 0, 0, 1, 0, 0, 1, 1, 0, 1, 0, 0, 1, 0, 0, 1, 0, 1, 0, 0, 1, 0, 0, 1, 0]) (F' := [(0, .agg [.lit (.int .i64 x0.Rows), .sl (x0.Classes.map (eSl (eI .i64)))]), (2, .box [.lit (.int .i64 x0.Rows), .sl (x0.Classes.map (eSl (eI .i64)))]), (6, .own (r5.map (eI .i64))), (7, .lit (.int .i64 y7_L3)), (8, .lit (.int .i64 y8_L3)), (9, .sl (a7.map (eI .i64))), (10, .lit (.int .i64 y10_L3)), (11, .lit (.int .i64 y11_L3)), (12, .lit (.int .i64 y12_L3)), (13, .lit (.int .i64 y13_L3))]) 1 (by kernel_rfl) (by kernel_rfl) ?_
      refine Pt.reg (by kernel_rfl) ?_
      refine AtO.seg 3 (by kernel_rfl) ?_
      refine AtO.go (p' := [1, 1, 1, 1, 1, 0, 1, 0, 0, 1, 0, 0, 1, 1, 0, 1, 0, 0, 1, 0, 0, 1, 0, 1, 0, 0, 1, 1]) (F' := [(0, .agg [.lit (.int .i64 x0.Rows), .sl (x0.Classes.map (eSl (eI .i64)))]), (2, .box [.lit (.int .i64 x0.Rows), .sl (x0.Classes.map (eSl (eI .i64)))]), (6, .own (r5.map (eI .i64))), (7, .lit (.int .i64 y7_L3)), (8, .lit (.int .i64 y8_L3)), (9, .sl (a7.map (eI .i64))), (10, .lit (.int .i64 y10_L3)), (11, .lit (.int .i64 y11_L3)), (12, .lit (.int .i64 ((IntKind.wrap .i64 (y12_L3 + 1))))), (13, .lit (.int .i64 y13_L3))]) 0 (by kernel_rfl) (by kernel_rfl) ?_
      exact h
    · have h := ite_f h (beq_f hc)
      refine AtO.go (p' := [1, 1, 1, 1, 1, 0, 1, 0, 0, 1, 0, 0, 1, 1, 0, 1, 0, 0, 1, 0, 0, 1, 0, 1, 0, 0, 1, 1]) (F' := [(0, .agg [.lit (.int .i64 x0.Rows), .sl (x0.Classes.map (eSl (eI .i64)))]), (2, .box [.lit (.int .i64 x0.Rows), .sl (x0.Classes.map (eSl (eI .i64)))]), (6, .own (r5.map (eI .i64))), (7, .lit (.int .i64 y7_L3)), (8, .lit (.int .i64 y8_L3)), (9, .sl (a7.map (eI .i64))), (10, .lit (.int .i64 y10_L3)), (11, .lit (.int .i64 y11_L3)), (12, .lit (.int .i64 y12_L3)), (13, .lit (.int .i64 y13_L3))]) 2 (by kernel_rfl) (by kernel_rfl) ?_
      exact h
  · have h := ite_f h (of_decide_eq_false hc)
    refine AtO.go (p' := [1, 1, 1, 1, 1, 0, 1, 0, 0, 1, 0, 0, 1, 1, 0, 1, 0, 0, 1, 0, 0, 1, 1]) (F' := [(0, .agg [.lit (.int .i64 x0.Rows), .sl (x0.Classes.map (eSl (eI .i64)))]), (2, .box [.lit (.int .i64 x0.Rows), .sl (x0.Classes.map (eSl (eI .i64)))]), (6, .own (r5.map (eI .i64))), (7, .lit (.int .i64 y7_L3)), (8, .lit (.int .i64 y8_L3)), (9, .sl (a7.map (eI .i64))), (10, .lit (.int .i64 y10_L3)), (11, .lit (.int .i64 y11_L3)), (12, .lit (.int .i64 y12_L3))]) 2 (by kernel_rfl) (by kernel_rfl) ?_
    refine Pt.reg (by kernel_rfl) ?_
    refine AtO.seg 4 (by kernel_rfl) ?_
    refine AtO.go (p' := [1, 1, 1, 1, 1, 0, 1, 0, 0, 1, 0, 0, 1, 1, 0, 1, 0, 0, 1, 1]) (F' := [(0, .agg [.lit (.int .i64 x0.Rows), .sl (x0.Classes.map (eSl (eI .i64)))]), (2, .box [.lit (.int .i64 x0.Rows), .sl (x0.Classes.map (eSl (eI .i64)))]), (6, .own (r5.map (eI .i64))), (7, .lit (.int .i64 y7_L3)), (8, .lit (.int .i64 y8_L3)), (9, .sl (a7.map (eI .i64))), (10, .lit (.int .i64 ((imax y10_L3 y12_L3)))), (11, .lit (.int .i64 y11_L3))]) 0 (by kernel_rfl) (by kernel_rfl) ?_
    refine Pt.reg (by kernel_rfl) ?_
    refine AtO.seg 3 (by kernel_rfl) ?_
    refine AtO.go (p' := [1, 1, 1, 1, 1, 0, 1, 0, 0, 1, 0, 0, 1, 1, 0, 1, 0]) (F' := [(0, .agg [.lit (.int .i64 x0.Rows), .sl (x0.Classes.map (eSl (eI .i64)))]), (2, .box [.lit (.int .i64 x0.Rows), .sl (x0.Classes.map (eSl (eI .i64)))]), (6, .own (r5.map (eI .i64))), (7, .lit (.int .i64 y7_L3)), (8, .lit (.int .i64 y8_L3)), (9, .sl (a7.map (eI .i64))), (10, .lit (.int .i64 ((imax y10_L3 y12_L3)))), (11, .lit (.int .i64 ((IntKind.wrap .i64 (y11_L3 + 1)))))]) 0 (by kernel_rfl) (by kernel_rfl) ?_
    exact h
theorem L4_step (x0 : api_Partition) (r5 : List Int) (y7_L3 : Int) (y8_L3 : Int) (a7 : List Int) (y10_L4 : Int) (y11_L4 : Int) (y12_L4 : Int) (y13_L3 : Int) (φ : Int × Int → Prop) (h :
    drossref08_Removal.L3 x0 r5 y7_L3 y8_L3 a7 y10_L4 y11_L4 y12_L4 ((IntKind.wrap .i64 (y13_L3 + 1))) φ) : L4 x0 r5 y7_L3 y8_L3 a7 y10_L4 y11_L4 y12_L4 y13_L3 φ := by
  unfold L4
  refine Pt.reg (by kernel_rfl) ?_
  refine AtO.seg 3 (by kernel_rfl) ?_
  refine AtO.go (p' := [1, 1, 1, 1, 1, 0, 1, 0, 0, 1, 0, 0, 1, 1, 0, 1, 0, 0, 1, 0, 0, 1, 0, 1, 0]) (F' := [(0, .agg [.lit (.int .i64 x0.Rows), .sl (x0.Classes.map (eSl (eI .i64)))]), (2, .box [.lit (.int .i64 x0.Rows), .sl (x0.Classes.map (eSl (eI .i64)))]), (6, .own (r5.map (eI .i64))), (7, .lit (.int .i64 y7_L3)), (8, .lit (.int .i64 y8_L3)), (9, .sl (a7.map (eI .i64))), (10, .lit (.int .i64 y10_L4)), (11, .lit (.int .i64 y11_L4)), (12, .lit (.int .i64 y12_L4)), (13, .lit (.int .i64 ((IntKind.wrap .i64 (y13_L3 + 1)))))]) 0 (by kernel_rfl) (by kernel_rfl) ?_
  exact h
theorem enter (x0 : api_Partition) (x1 : api_Partition) (φ : Int × Int → Prop) (h :
    ∃ r1 : Bool, drossref08_Valid.C x0 r1 ∧
    (if r1 = true then
      ∃ r3 : Bool, drossref08_Valid.C x1 r3 ∧
      (if r3 = true then
        (if x0.Rows = x1.Rows then
          ∃ r5 : List Int, drossref08_Labels.C x1 r5 ∧
          drossref08_Removal.L1 x0 r5 0 0 φ
        else
          φ ((0, 6)))
      else
        φ ((0, 1)))
    else
      φ ((0, 1)))) : ∃ r, φ r ∧ C x0 x1 r := by
  refine Ret.of_at (E := env) (f := 24) (fd := Tryd.f24) (body := B) (p := [0]) (V := W) (F := [(0, .agg [.lit (.int .i64 x0.Rows), .sl (x0.Classes.map (eSl (eI .i64)))]), (1, .agg [.lit (.int .i64 x1.Rows), .sl (x1.Classes.map (eSl (eI .i64)))]), (2, .undef), (3, .undef), (4, .undef), (5, .undef), (6, .undef), (7, .undef), (8, .undef), (9, .undef), (10, .undef), (11, .undef), (12, .undef), (13, .undef), (21, .undef), (26, .undef), (33, .undef), (44, .undef), (50, .undef), (67, .undef)]) (res := res) (φ := φ) (ds := [.agg [.lit (.int .i64 x0.Rows), .sl (x0.Classes.map (eSl (eI .i64)))], .agg [.lit (.int .i64 x1.Rows), .sl (x1.Classes.map (eSl (eI .i64)))]]) (by kernel_rfl) (by kernel_rfl) (by kernel_rfl) ⟨Nat.le_of_ble_eq_true (by kernel_rfl), Nat.le_of_ble_eq_true (by kernel_rfl)⟩ (by kernel_rfl) (by kernel_rfl) (by kernel_rfl) ?_
  refine Pt.reg (by kernel_rfl) ?_
  refine AtO.seg 4 (by kernel_rfl) ?_
  refine AtO.go (p' := [1, 0, 0]) (F' := [(0, .agg [.lit (.int .i64 x0.Rows), .sl (x0.Classes.map (eSl (eI .i64)))]), (1, .agg [.lit (.int .i64 x1.Rows), .sl (x1.Classes.map (eSl (eI .i64)))]), (2, .box [.lit (.int .i64 x0.Rows), .sl (x0.Classes.map (eSl (eI .i64)))]), (3, .box [.lit (.int .i64 x1.Rows), .sl (x1.Classes.map (eSl (eI .i64)))])]) 0 (by kernel_rfl) (by kernel_rfl) ?_
  refine Pt.reg (by kernel_rfl) ?_
  obtain ⟨r1, h2, h⟩ := h
  refine AtO.seg 1 (by kernel_rfl) ?_
  refine AtO.call0 (x := (.func 16)) (g := 16) (caps := []) (agl := [.opn (.tmp 14)]) (ds := [.agg [.lit (.int .i64 x0.Rows), .sl (x0.Classes.map (eSl (eI .i64)))]]) (r := .lit (.bool r1)) (r' := .lit (.bool r1)) (ms := [none]) (by kernel_rfl) (by kernel_rfl) (by kernel_rfl) (by kernel_rfl) (by kernel_rfl) (by kernel_rfl) (pass_snap (a := .opn (.tmp 14)) (d0 := .agg [.lit (.int .i64 x0.Rows), .sl (x0.Classes.map (eSl (eI .i64)))]) (d := .agg [.lit (.int .i64 x0.Rows), .sl (x0.Classes.map (eSl (eI .i64)))]) (by kernel_rfl) (by kernel_rfl) (by kernel_rfl) pass_nil) h2 rfl (by kernel_rfl) ?_
  refine AtO.putb (fun hc => ?_) (fun hc => ?_)
  · have h := ite_t h (id hc)
    obtain ⟨r3, h4, h⟩ := h
    refine AtO.seg 3 (by kernel_rfl) ?_
    refine AtO.call0 (x := (.func 16)) (g := 16) (caps := []) (agl := [.opn (.tmp 18)]) (ds := [.agg [.lit (.int .i64 x1.Rows), .sl (x1.Classes.map (eSl (eI .i64)))]]) (r := .lit (.bool r3)) (r' := .lit (.bool r3)) (ms := [none]) (by kernel_rfl) (by kernel_rfl) (by kernel_rfl) (by kernel_rfl) (by kernel_rfl) (by kernel_rfl) (pass_snap (a := .opn (.tmp 18)) (d0 := .agg [.lit (.int .i64 x1.Rows), .sl (x1.Classes.map (eSl (eI .i64)))]) (d := .agg [.lit (.int .i64 x1.Rows), .sl (x1.Classes.map (eSl (eI .i64)))]) (by kernel_rfl) (by kernel_rfl) (by kernel_rfl) pass_nil) h4 rfl (by kernel_rfl) ?_
    refine AtO.putb (fun hc => ?_) (fun hc => ?_)
    · have h := ite_t h (id hc)
      refine AtO.seg 2 (by kernel_rfl) ?_
      refine AtO.go (p' := [1, 1, 0, 0]) (F' := [(0, .agg [.lit (.int .i64 x0.Rows), .sl (x0.Classes.map (eSl (eI .i64)))]), (1, .agg [.lit (.int .i64 x1.Rows), .sl (x1.Classes.map (eSl (eI .i64)))]), (2, .box [.lit (.int .i64 x0.Rows), .sl (x0.Classes.map (eSl (eI .i64)))]), (3, .box [.lit (.int .i64 x1.Rows), .sl (x1.Classes.map (eSl (eI .i64)))])]) 2 (by kernel_rfl) (by kernel_rfl) ?_
      refine Pt.reg (by kernel_rfl) ?_
      refine AtO.seg 4 (by kernel_rfl) ?_
      refine AtO.bool (b := (x0.Rows != x1.Rows)) (by kernel_rfl) (by kernel_rfl) (fun hc => ?_) (fun hc => ?_)
      · have h := ite_f h (bne_t hc)
        refine AtO.go (p' := [1, 1, 0, 1, 0, 0]) (F' := []) 1 (by kernel_rfl) (by kernel_rfl) ?_
        refine Pt.reg (by kernel_rfl) ?_
        refine AtO.seg 2 (by kernel_rfl) ?_
        refine AtO.go (p' := [1, 1, 0, 1, 0, 1]) (F' := [(4, .lit (.int .i64 0)), (5, .lit (.int .i64 6))]) 0 (by kernel_rfl) (by kernel_rfl) ?_
        exact Pt.ret ((0, 6)) (by kernel_rfl) (by kernel_rfl) h
      · have h := ite_t h (bne_f hc)
        refine AtO.go (p' := [1, 1, 1, 0]) (F' := [(0, .agg [.lit (.int .i64 x0.Rows), .sl (x0.Classes.map (eSl (eI .i64)))]), (1, .agg [.lit (.int .i64 x1.Rows), .sl (x1.Classes.map (eSl (eI .i64)))]), (2, .box [.lit (.int .i64 x0.Rows), .sl (x0.Classes.map (eSl (eI .i64)))]), (3, .box [.lit (.int .i64 x1.Rows), .sl (x1.Classes.map (eSl (eI .i64)))])]) 2 (by kernel_rfl) (by kernel_rfl) ?_
        refine Pt.reg (by kernel_rfl) ?_
        obtain ⟨r5, h6, h⟩ := h
        refine AtO.seg 1 (by kernel_rfl) ?_
        refine AtO.call0 (x := (.func 39)) (g := 39) (caps := []) (agl := [.opn (.tmp 27)]) (ds := [.agg [.lit (.int .i64 x1.Rows), .sl (x1.Classes.map (eSl (eI .i64)))]]) (r := .own (r5.map (eI .i64))) (r' := .own (r5.map (eI .i64))) (ms := [none]) (by kernel_rfl) (by kernel_rfl) (by kernel_rfl) (by kernel_rfl) (by kernel_rfl) (by kernel_rfl) (pass_snap (a := .opn (.tmp 27)) (d0 := .agg [.lit (.int .i64 x1.Rows), .sl (x1.Classes.map (eSl (eI .i64)))]) (d := .agg [.lit (.int .i64 x1.Rows), .sl (x1.Classes.map (eSl (eI .i64)))]) (by kernel_rfl) (by kernel_rfl) (by kernel_rfl) pass_nil) h6 (flat_ow (e := (eI .i64)) (fun _ => rfl)) (by kernel_rfl) ?_
        refine AtO.seg 1 (by kernel_rfl) ?_
        refine AtO.go (p' := [1, 1, 1, 1, 0]) (F' := [(0, .agg [.lit (.int .i64 x0.Rows), .sl (x0.Classes.map (eSl (eI .i64)))]), (2, .box [.lit (.int .i64 x0.Rows), .sl (x0.Classes.map (eSl (eI .i64)))]), (6, .own (r5.map (eI .i64)))]) 0 (by kernel_rfl) (by kernel_rfl) ?_
        refine Pt.reg (by kernel_rfl) ?_
        refine AtO.seg 1 (by kernel_rfl) ?_
        refine AtO.go (p' := [1, 1, 1, 1, 1, 0, 0]) (F' := [(0, .agg [.lit (.int .i64 x0.Rows), .sl (x0.Classes.map (eSl (eI .i64)))]), (2, .box [.lit (.int .i64 x0.Rows), .sl (x0.Classes.map (eSl (eI .i64)))]), (6, .own (r5.map (eI .i64))), (7, .lit (.int .i64 0))]) 0 (by kernel_rfl) (by kernel_rfl) ?_
        refine Pt.reg (by kernel_rfl) ?_
        refine AtO.seg 1 (by kernel_rfl) ?_
        refine AtO.go (p' := [1, 1, 1, 1, 1, 0, 1, 0]) (F' := [(0, .agg [.lit (.int .i64 x0.Rows), .sl (x0.Classes.map (eSl (eI .i64)))]), (2, .box [.lit (.int .i64 x0.Rows), .sl (x0.Classes.map (eSl (eI .i64)))]), (6, .own (r5.map (eI .i64))), (7, .lit (.int .i64 0)), (8, .lit (.int .i64 0))]) 0 (by kernel_rfl) (by kernel_rfl) ?_
        exact h
    · have h := ite_f h (fls hc)
      refine AtO.seg 2 (by kernel_rfl) ?_
      refine AtO.go (p' := [1, 0, 1, 0, 0]) (F' := []) 1 (by kernel_rfl) (by kernel_rfl) ?_
      refine Pt.reg (by kernel_rfl) ?_
      refine AtO.seg 2 (by kernel_rfl) ?_
      refine AtO.go (p' := [1, 0, 1, 0, 1]) (F' := [(4, .lit (.int .i64 0)), (5, .lit (.int .i64 1))]) 0 (by kernel_rfl) (by kernel_rfl) ?_
      exact Pt.ret ((0, 1)) (by kernel_rfl) (by kernel_rfl) h
  · have h := ite_f h (fls hc)
    refine AtO.seg 6 (by kernel_rfl) ?_
    refine AtO.go (p' := [1, 0, 1, 0, 0]) (F' := []) 1 (by kernel_rfl) (by kernel_rfl) ?_
    refine Pt.reg (by kernel_rfl) ?_
    refine AtO.seg 2 (by kernel_rfl) ?_
    refine AtO.go (p' := [1, 0, 1, 0, 1]) (F' := [(4, .lit (.int .i64 0)), (5, .lit (.int .i64 1))]) 0 (by kernel_rfl) (by kernel_rfl) ?_
    exact Pt.ret ((0, 1)) (by kernel_rfl) (by kernel_rfl) h
end drossref08_Removal
end Go.Own

namespace Go.Own
def maxc (l : List Int) : Int := (l.map fun a => (l.count a : Int)).foldr max 0
theorem foldr_max_le {l : List Int} {k : Int} : l.foldr max 0 ≤ k ↔ 0 ≤ k ∧ ∀ x ∈ l, x ≤ k := by
  induction l with
  | nil => simp
  | cons a l ih =>
    simp only [List.foldr_cons, List.forall_mem_cons]
    constructor
    · intro h; have := ih.1 (by omega); exact ⟨this.1, by omega, this.2⟩
    · rintro ⟨h1, h2, h3⟩; have := ih.2 ⟨h1, h3⟩; omega
theorem maxc_le {l : List Int} {k : Int} : maxc l ≤ k ↔ 0 ≤ k ∧ ∀ x ∈ l, (l.count x : Int) ≤ k := by
  unfold maxc
  rw [foldr_max_le]
  simp
theorem maxc_snoc {l : List Int} {a : Int} : maxc (l ++ [a]) = max (maxc l) ((l.count a : Int) + 1) := by
  have e : ∀ k, maxc (l ++ [a]) ≤ k ↔ max (maxc l) ((l.count a : Int) + 1) ≤ k := by
    intro k
    rw [Int.max_le, maxc_le, maxc_le]
    have hc : ∀ x, (l ++ [a]).count x = l.count x + if a = x then 1 else 0 := by
      intro x
      rw [List.count_append]
      congr 1
      by_cases h : a = x <;> simp [h]
    constructor
    · rintro ⟨h1, h2⟩
      refine ⟨⟨h1, fun x hx => ?_⟩, ?_⟩
      · have := h2 x (by simp [hx]); rw [hc] at this; split at this <;> omega
      · have := h2 a (by simp); rw [hc, if_pos rfl] at this; omega
    · rintro ⟨⟨h1, h2⟩, h3⟩
      refine ⟨h1, fun x hx => ?_⟩
      rw [hc]
      split
      · rename_i hax; subst hax; omega
      · have : x ∈ l := by
          rcases List.mem_append.1 hx with h | h
          · exact h
          · simp at h; rename_i hne; exact absurd h.symm hne
        have := h2 x this; omega
  have h1 := (e (max (maxc l) ((l.count a : Int) + 1))).2 (Int.le_refl _)
  have h2 := (e (maxc (l ++ [a]))).1 (Int.le_refl _)
  omega
theorem maxc_nonneg {l : List Int} : 0 ≤ maxc l := (maxc_le.1 (Int.le_refl _)).1
theorem maxc_len {l : List Int} : maxc l ≤ l.length := maxc_le.2 ⟨by omega, fun x _ => by have := List.count_le_length (a := x) (l := l); omega⟩
theorem maxc_map {f g : Int → Int} {c : List Int} (h : ∀ i ∈ c, ∀ j ∈ c, f i = f j ↔ g i = g j) : maxc (c.map f) = maxc (c.map g) := by
  unfold maxc
  rw [List.map_map, List.map_map]
  congr 1
  refine List.map_congr_left fun i hi => ?_
  simp only [Function.comp]
  congr 1
  rw [List.count_eq_countP, List.count_eq_countP, List.countP_map, List.countP_map]
  refine List.countP_congr fun j hj => ?_
  simp only [Function.comp, beq_iff_eq]
  exact h j hj i hi
theorem maxc_pos {l : List Int} (h : l ≠ []) : 1 ≤ maxc l := by
  match l, h with
  | a :: t, _ =>
    have := (maxc_le (l := a :: t) (k := maxc (a :: t))).1 (Int.le_refl _)
    have h2 := this.2 a (by simp)
    simp only [List.count_cons_self] at h2
    omega
def remS (r : List Int) : List (List Int) → Int
  | [] => 0
  | c :: cs => ((c.length : Int) - maxc (c.map (lab1 r))) + remS r cs
def removalF (x xa : api_Partition) : Int × Int := if bothF x xa = 0 then (remS (labF xa) x.Classes, 0) else (0, bothF x xa)
theorem mgetD_mset {k k' v : Int} : ∀ {l : List (Int × Int)}, mgetD k' (mset k v l) 0 = if k = k' then v else mgetD k' l 0
  | [] => by
    by_cases h : k = k'
    · subst h; simp [mgetD, mset, mget]
    · simp [mgetD, mset, mget, h, Ne.symm h]
  | (a, b) :: l => by
    have ih := mgetD_mset (k := k) (k' := k') (v := v) (l := l)
    simp only [mgetD] at ih ⊢
    simp only [mset]
    by_cases h1 : k = a
    · subst h1
      simp only [if_true, mget]
      by_cases h2 : k' = k
      · subst h2; simp
      · simp [h2, Ne.symm h2]
    · simp only [if_neg h1, mget]
      by_cases h2 : k' = a
      · subst h2; simp [h1]
      · simp only [if_neg h2]; exact ih
structure Lbl (x : api_Partition) (r : List Int) : Prop where
  has : ∀ c ∈ x.Classes, ∀ i ∈ c, ∃ a, lget r i = some a
namespace partition_Removal
theorem inner {x0 : api_Partition} {r : List Int} {φ : Int × Int → Prop} {y8 y26 : Int} {c : List Int} (hc : c.length ≤ 1001) (hl : ∀ i ∈ c, ∃ a, lget r i = some a) : ∀ (t : List Int) (k : Nat) (m : List (Int × Int)), c.drop k = t → (∀ a, mgetD a m 0 = (((c.take k).map (lab1 r)).count a : Int)) →
    L1 x0 r (IntKind.wrap .i64 (y8 + IntKind.wrap .i64 ((c.length : Int) - maxc (c.map (lab1 r))))) (IntKind.wrap .i64 (y26 + 1)) φ → L2 x0 r y8 c m (maxc ((c.take k).map (lab1 r))) y26 k φ
  | [], k, m, hd, hm, h => by
    apply L2_step
    have := drop_ge hd
    rw [if_neg (by omega)]
    rw [List.take_of_length_le this]
    exact h
  | i :: t, k, m, hd, hm, h => by
    apply L2_step
    have hk := drop_lt hd
    rw [if_pos (by omega)]
    obtain ⟨a, ha⟩ := hl i (List.mem_of_getElem? (drop_get hd))
    refine ⟨i, lget_drop hd, a, ha, ?_⟩
    have hcount : (((c.take k).map (lab1 r)).count a : Int) ≤ 1001 := by
      have := List.count_le_length (a := a) (l := (c.take k).map (lab1 r))
      rw [List.length_map, List.length_take] at this; omega
    have hnn : (0 : Int) ≤ (((c.take k).map (lab1 r)).count a : Int) := by omega
    rw [mgetD_mset, if_pos rfl, hm a, wrap_id (x := ((((c.take k).map (lab1 r)).count a : Int)) + 1) (by omega) (by omega), imax_eq, ← maxc_snoc]
    have htk : (c.take k).map (lab1 r) ++ [a] = (c.take (k + 1)).map (lab1 r) := by
      rw [List.take_add_one, drop_get hd]
      simp [lab1_of ha]
    rw [htk, wrap_succ (by omega)]
    refine inner hc hl t (k + 1) _ (drop_next hd) (fun b => ?_) h
    rw [mgetD_mset, ← htk, List.count_append]
    by_cases hab : a = b
    · subst hab; simp
    · rw [if_neg hab, hm b]; simp [hab]
theorem outer {x0 : api_Partition} {r : List Int} {φ : Int × Int → Prop} (hz : x0.Classes.length ≤ 1000 ∧ ∀ c ∈ x0.Classes, c.length ≤ 1001) (hl : Lbl x0 r) : ∀ (cs : List (List Int)) (k : Nat) (s : Int), x0.Classes.drop k = cs → 0 ≤ s → s ≤ 2000 * k → φ (s + remS r cs, 0) → L1 x0 r s k φ
  | [], k, s, hd, h1, h2, h => by
    apply L1_step
    have := drop_ge hd
    rw [if_neg (by omega)]
    simpa [remS] using h
  | c :: cs, k, s, hd, h1, h2, h => by
    apply L1_step
    have hk := drop_lt hd
    have hc : c ∈ x0.Classes := List.mem_of_getElem? (drop_get hd)
    rw [if_pos (by omega)]
    refine ⟨c, lget_drop hd, ?_⟩
    have := inner (x0 := x0) (φ := φ) (y8 := s) (y26 := k) (hz.2 c hc) (hl.has c hc) c 0 [] rfl (by simp [mgetD, mget])
    refine this ?_
    have hcl := hz.2 c hc
    have m1 := maxc_nonneg (l := c.map (lab1 r))
    have m2 := maxc_len (l := c.map (lab1 r))
    simp only [List.length_map] at m2
    rw [wrap_id (x := (c.length : Int) - maxc (c.map (lab1 r))) (by omega) (by omega), wrap_id (by omega) (by omega), wrap_succ (by omega)]
    refine outer hz hl cs (k + 1) _ (drop_next hd) (by omega) (by omega) ?_
    have e : s + ((c.length : Int) - maxc (c.map (lab1 r))) + remS r cs = s + remS r (c :: cs) := by simp only [remS]; omega
    rw [e]; exact h
theorem spec0 {x xa : api_Partition} (hx : Small x) (ha : Small xa) : C x xa (if bothF x xa = 0 then (remS (labN xa) x.Classes, 0) else (0, bothF x xa)) := by
  obtain ⟨r, h1, h2⟩ := enter x xa (fun r => r = if bothF x xa = 0 then (remS (labN xa) x.Classes, 0) else (0, bothF x xa)) (by
    refine ⟨_, partition_both.spec hx ha, ?_⟩
    split
    · rename_i hb
      have hb' := hb
      unfold bothF at hb
      split at hb
      · rename_i hv
        split at hb
        · rename_i hva
          split at hb
          · rename_i hr
            refine ⟨labN xa, partition_labels.spec ha hva, ?_⟩
            refine outer (sizes hv) ⟨fun c hc i hi => ?_⟩ x.Classes 0 0 rfl (by omega) (by omega) ?_
            · have := (valid_iff.1 hv).2.2.inn c hc i hi
              exact lget_lt this.1 (by rw [labN_len]; omega)
            · rw [Int.zero_add]
          · omega
        · omega
      · omega
    · rfl)
  rw [← h1]; exact h2
end partition_Removal
theorem remS_eq {x : List (List Int)} {r r' : List Int} (h : ∀ c ∈ x, ∀ i ∈ c, ∀ j ∈ c, lab1 r i = lab1 r j ↔ lab1 r' i = lab1 r' j) : remS r x = remS r' x := by
  induction x with
  | nil => rfl
  | cons c cs ih =>
    simp only [remS]
    rw [ih fun d hd => h d (by simp [hd]), maxc_map (h c (by simp))]
theorem removal_same {x xa : api_Partition} (hb : bothF x xa = 0) : remS (labN xa) x.Classes = remS (labF xa) x.Classes := by
  unfold bothF at hb
  split at hb
  · rename_i hv
    split at hb
    · rename_i hva
      split at hb
      · rename_i hr
        refine remS_eq fun c hc i hi j hj => ?_
        have h1 := (valid_iff.1 hv).2.2.inn c hc i hi
        have h2 := (valid_iff.1 hv).2.2.inn c hc j hj
        rw [hr] at h1 h2
        rw [lab1_iff (by rw [labN_len]; omega) (by rw [labN_len]; omega), lab1_iff (by rw [labF_len]; omega) (by rw [labF_len]; omega), labN_same hva h1 h2, labF_same hva h1 h2]
      · omega
    · omega
  · omega
theorem partition_Removal.spec {x xa : api_Partition} (hx : Small x) (ha : Small xa) : partition_Removal.C x xa (removalF x xa) := by
  have := partition_Removal.spec0 hx ha
  unfold removalF
  split
  · rename_i hb
    rw [if_pos hb, removal_same hb] at this; exact this
  · rename_i hb
    rw [if_neg hb] at this; exact this
namespace drossref08_Removal
theorem cnt {x0 : api_Partition} {r : List Int} {φ : Int × Int → Prop} {y7 : Int} {y8 best : Int} {c : List Int} {k : Nat} {ik ak : Int} (hc : c.length ≤ 1001) (hl : ∀ i ∈ c, ∃ a, lget r i = some a) (hik : c[k]? = some ik) (hak : lget r ik = some ak) : ∀ (t : List Int) (j : Nat) (n : Int), c.drop j = t → 0 ≤ n → n ≤ j →
    L2 x0 r y7 y8 c (max best (n + ((t.map (lab1 r)).count ak : Int))) (IntKind.wrap .i64 ((k : Int) + 1)) φ → L3 x0 r y7 y8 c best k n j φ
  | [], j, n, hd, h1, h2, h => by
    apply L3_step
    have := drop_ge hd
    rw [if_neg (by omega), imax_eq]
    simpa using h
  | i :: t, j, n, hd, h1, h2, h => by
    apply L3_step
    have hj := drop_lt hd
    rw [if_pos (by omega)]
    obtain ⟨a, ha⟩ := hl i (List.mem_of_getElem? (drop_get hd))
    refine ⟨i, lget_drop hd, a, ha, ik, by rw [lget_nat]; exact hik, ak, hak, ?_⟩
    have e : ((i :: t).map (lab1 r)).count ak = (if a = ak then 1 else 0) + (t.map (lab1 r)).count ak := by
      simp only [List.map_cons, List.count_cons, lab1_of ha, beq_iff_eq]; split <;> omega
    rw [e] at h
    split
    · rename_i hh
      rw [if_pos hh] at h
      apply L4_step
      rw [wrap_succ (by omega), wrap_id (by omega) (by omega)]
      refine cnt hc hl hik hak t (j + 1) (n + 1) (drop_next hd) (by omega) (by omega) ?_
      have e2 : n + (((1 + (t.map (lab1 r)).count ak : Nat)) : Int) = n + 1 + ((t.map (lab1 r)).count ak : Int) := by omega
      rw [e2] at h; exact h
    · rename_i hh
      rw [if_neg hh] at h
      apply L4_step
      rw [wrap_succ (by omega)]
      refine cnt hc hl hik hak t (j + 1) n (drop_next hd) h1 (by omega) ?_
      rw [Nat.zero_add] at h; exact h
theorem best {x0 : api_Partition} {r : List Int} {φ : Int × Int → Prop} {y7 : Int} {y8 : Int} {c : List Int} (hc : c.length ≤ 1001) (hl : ∀ i ∈ c, ∃ a, lget r i = some a) : ∀ (t : List Int) (k : Nat) (b : Int), c.drop k = t →
    L1 x0 r (IntKind.wrap .i64 ((IntKind.wrap .i64 (y7 + (c.length : Int))) - (t.map fun i => ((c.map (lab1 r)).count (lab1 r i) : Int)).foldl max b)) (IntKind.wrap .i64 (y8 + 1)) φ → L2 x0 r y7 y8 c b k φ
  | [], k, b, hd, h => by
    apply L2_step
    have := drop_ge hd
    rw [if_neg (by omega)]
    exact h
  | i :: t, k, b, hd, h => by
    apply L2_step
    have hk := drop_lt hd
    rw [if_pos (by omega)]
    obtain ⟨a, ha⟩ := hl i (List.mem_of_getElem? (drop_get hd))
    refine cnt hc hl (drop_get hd) ha c 0 0 rfl (by omega) (by omega) ?_
    rw [wrap_succ (by omega), Int.zero_add]
    refine best hc hl t (k + 1) _ (drop_next hd) ?_
    simp only [List.map_cons, List.foldl_cons, lab1_of ha] at h
    exact h
theorem foldl_max {l : List Int} : ∀ {b : Int}, 0 ≤ b → l.foldl max b = max b (l.foldr max 0) := by
  induction l with
  | nil => intro b hb; simp; omega
  | cons a l ih =>
    intro b hb
    simp only [List.foldl_cons, List.foldr_cons]
    rw [ih (by omega)]; omega
theorem outer {x0 : api_Partition} {r : List Int} {φ : Int × Int → Prop} (hz : x0.Classes.length ≤ 1000 ∧ ∀ c ∈ x0.Classes, c.length ≤ 1001) (hl : Lbl x0 r) : ∀ (cs : List (List Int)) (k : Nat) (s : Int), x0.Classes.drop k = cs → 0 ≤ s → s ≤ 2000 * k → φ (s + remS r cs, 0) → L1 x0 r s k φ
  | [], k, s, hd, h1, h2, h => by
    apply L1_step
    have := drop_ge hd
    rw [if_neg (by omega)]
    simpa [remS] using h
  | c :: cs, k, s, hd, h1, h2, h => by
    apply L1_step
    have hk := drop_lt hd
    have hc : c ∈ x0.Classes := List.mem_of_getElem? (drop_get hd)
    rw [if_pos (by omega)]
    refine ⟨c, lget_drop hd, ?_⟩
    refine best (hz.2 c hc) (hl.has c hc) c 0 0 rfl ?_
    have hmc : (c.map fun i => ((c.map (lab1 r)).count (lab1 r i) : Int)).foldl max 0 = maxc (c.map (lab1 r)) := by
      rw [foldl_max (Int.le_refl 0)]
      have := maxc_nonneg (l := c.map (lab1 r))
      unfold maxc at this ⊢
      rw [List.map_map] at this ⊢
      exact Int.max_eq_right this
    rw [hmc]
    have hcl := hz.2 c hc
    have m1 := maxc_nonneg (l := c.map (lab1 r))
    have m2 := maxc_len (l := c.map (lab1 r))
    simp only [List.length_map] at m2
    rw [wrap_id (x := s + (c.length : Int)) (by omega) (by omega), wrap_id (by omega) (by omega), wrap_succ (by omega)]
    refine outer hz hl cs (k + 1) _ (drop_next hd) (by omega) (by omega) ?_
    have e : s + (c.length : Int) - maxc (c.map (lab1 r)) + remS r cs = s + remS r (c :: cs) := by simp only [remS]; omega
    rw [e]; exact h
theorem spec {x xa : api_Partition} (hx : Small x) (ha : Small xa) : C x xa (removalF x xa) := by
  obtain ⟨r, h1, h2⟩ := enter x xa (fun r => r = removalF x xa) (by
    refine ⟨_, drossref08_Valid.spec hx, ?_⟩
    unfold removalF
    split
    · rename_i hv
      refine ⟨_, drossref08_Valid.spec ha, ?_⟩
      split
      · rename_i hva
        split
        · rename_i hr
          rw [if_pos (by simp [bothF, hv, hva, hr])]
          refine ⟨labF xa, drossref08_Labels.spec ha hva, ?_⟩
          refine outer (sizes hv) ⟨fun c hc i hi => ?_⟩ x.Classes 0 0 rfl (by omega) (by omega) ?_
          · have := (valid_iff.1 hv).2.2.inn c hc i hi
            exact lget_lt this.1 (by rw [labF_len]; omega)
          · rw [Int.zero_add]
        · rename_i hr
          rw [if_neg (by simp [bothF, hv, hva, hr])]
          simp [bothF, hv, hva, hr]
      · rename_i hva
        rw [if_neg (by simp [bothF, hv, hva])]
        simp [bothF, hv, hva]
    · rename_i hv
      rw [if_neg (by simp [bothF, hv])]
      simp [bothF, hv])
  rw [← h1]; exact h2
end drossref08_Removal
end Go.Own

namespace Go.Own
open Go.Proofs D
set_option maxRecDepth 100000
set_option maxHeartbeats 4000000
namespace drossref08_group
noncomputable def B : Code := (Tryd.f37.body).getD .skip
def W : List Nat := [0, 2, 3, 4, 5, 6, 7, 14, 20, 31, 48]
def res (r : api_Partition) : D × List D := (.agg [.lit (.int .i64 r.Rows), .own (r.Classes.map (eOw (eI .i64)))], [])
def C (x0 : List Int) (r : api_Partition) : Prop := Ret env 37 [.sl (x0.map (eI .i64))] (res r).1 (res r).2
def L1 (x0 : List Int) (y3_1_L1 : List (List Int)) (y4_L1 : Int) (φ : api_Partition → Prop) : Prop := Pt env 37 W B [1, 1, 0, 1, 0] [(0, .sl (x0.map (eI .i64))), (2, .box [.lit (.int .i64 0), .own []]), (3, .box [.lit (.int .i64 ((x0.length : Int))), .own (y3_1_L1.map (eOw (eI .i64)))]), (4, .lit (.int .i64 y4_L1))] (Lv env 37 Tryd.f37 1 res φ)
def L2 (x0 : List Int) (y3_1_L2 : List (List Int)) (y4_L2 : Int) (y5_L2 : List Int) (y6_L2 : Bool) (y7_L2 : Int) (φ : api_Partition → Prop) : Prop := Pt env 37 W B [1, 1, 0, 1, 0, 0, 1, 0, 0, 1, 1, 0, 1, 0] [(0, .sl (x0.map (eI .i64))), (2, .box [.lit (.int .i64 0), .own []]), (3, .box [.lit (.int .i64 ((x0.length : Int))), .own (y3_1_L2.map (eOw (eI .i64)))]), (4, .lit (.int .i64 y4_L2)), (5, .own (y5_L2.map (eI .i64))), (6, .lit (.bool y6_L2)), (7, .lit (.int .i64 y7_L2))] (Lv env 37 Tryd.f37 1 res φ)
def L3 (x0 : List Int) (y3_1_L3 : List (List Int)) (y4_L3 : Int) (y5_L3 : List Int) (y6_L3 : Bool) (y7_L2 : Int) (φ : api_Partition → Prop) : Prop := Pt env 37 W B [1, 1, 0, 1, 0, 0, 1, 0, 0, 1, 1, 0, 1, 0, 0, 1, 1] [(0, .sl (x0.map (eI .i64))), (2, .box [.lit (.int .i64 0), .own []]), (3, .box [.lit (.int .i64 ((x0.length : Int))), .own (y3_1_L3.map (eOw (eI .i64)))]), (4, .lit (.int .i64 y4_L3)), (5, .own (y5_L3.map (eI .i64))), (6, .lit (.bool y6_L3)), (7, .lit (.int .i64 y7_L2))] (Lv env 37 Tryd.f37 1 res φ)
def L4 (x0 : List Int) (y3_1_L4 : List (List Int)) (y4_L2 : Int) (φ : api_Partition → Prop) : Prop := Pt env 37 W B [1, 1, 0, 1, 0, 0, 1, 1] [(0, .sl (x0.map (eI .i64))), (2, .box [.lit (.int .i64 0), .own []]), (3, .box [.lit (.int .i64 ((x0.length : Int))), .own (y3_1_L4.map (eOw (eI .i64)))]), (4, .lit (.int .i64 y4_L2))] (Lv env 37 Tryd.f37 1 res φ)
theorem L1_step (x0 : List Int) (y3_1_L1 : List (List Int)) (y4_L1 : Int) (φ : api_Partition → Prop) (h :
    (if y4_L1 < (x0.length : Int) then
      drossref08_group.L2 x0 y3_1_L1 y4_L1 ([]) false 0 φ
    else
      φ ((⟨(x0.length : Int), y3_1_L1⟩ : api_Partition)))) : L1 x0 y3_1_L1 y4_L1 φ := by
  unfold L1
  refine Pt.loop (p' := [1, 1, 0, 1, 0, 0, 0, 0]) (by kernel_rfl) (by kernel_rfl) ?_
  refine Pt.reg (by kernel_rfl) ?_
  refine AtO.seg 2 (by kernel_rfl) ?_
  refine AtO.val (by kernel_rfl) (val_len (x := (.tmp 12)) (t := 38) (et := 3) (d := .sl (x0.map (eI .i64))) (e := (eI .i64)) (l := x0) (by kernel_rfl) (by kernel_rfl) elemsOf_sl (by kernel_rfl)) ?_
  refine AtO.bool (b := (decide (y4_L1 < (x0.length : Int)))) (by kernel_rfl) (by kernel_rfl) (fun hc => ?_) (fun hc => ?_)
  · have h := ite_t h (of_decide_eq_true hc)
    refine AtO.go (p' := [1, 1, 0, 1, 0, 0, 1, 0, 0, 0]) (F' := [(0, .sl (x0.map (eI .i64))), (2, .box [.lit (.int .i64 0), .own []]), (3, .box [.lit (.int .i64 ((x0.length : Int))), .own (y3_1_L1.map (eOw (eI .i64)))]), (4, .lit (.int .i64 y4_L1))]) 2 (by kernel_rfl) (by kernel_rfl) ?_
    refine Pt.reg (by kernel_rfl) ?_
    refine AtO.seg 1 (by kernel_rfl) ?_
    refine AtO.go (p' := [1, 1, 0, 1, 0, 0, 1, 0, 0, 1, 0]) (F' := [(0, .sl (x0.map (eI .i64))), (2, .box [.lit (.int .i64 0), .own []]), (3, .box [.lit (.int .i64 ((x0.length : Int))), .own (y3_1_L1.map (eOw (eI .i64)))]), (4, .lit (.int .i64 y4_L1)), (5, .own [])]) 0 (by kernel_rfl) (by kernel_rfl) ?_
    refine Pt.reg (by kernel_rfl) ?_
    refine AtO.seg 1 (by kernel_rfl) ?_
    refine AtO.go (p' := [1, 1, 0, 1, 0, 0, 1, 0, 0, 1, 1, 0, 0]) (F' := [(0, .sl (x0.map (eI .i64))), (2, .box [.lit (.int .i64 0), .own []]), (3, .box [.lit (.int .i64 ((x0.length : Int))), .own (y3_1_L1.map (eOw (eI .i64)))]), (4, .lit (.int .i64 y4_L1)), (5, .own []), (6, .lit (.bool false))]) 0 (by kernel_rfl) (by kernel_rfl) ?_
    refine Pt.reg (by kernel_rfl) ?_
    refine AtO.seg 1 (by kernel_rfl) ?_
    refine AtO.go (p' := [1, 1, 0, 1, 0, 0, 1, 0, 0, 1, 1, 0, 1, 0]) (F' := [(0, .sl (x0.map (eI .i64))), (2, .box [.lit (.int .i64 0), .own []]), (3, .box [.lit (.int .i64 ((x0.length : Int))), .own (y3_1_L1.map (eOw (eI .i64)))]), (4, .lit (.int .i64 y4_L1)), (5, .own []), (6, .lit (.bool false)), (7, .lit (.int .i64 0))]) 0 (by kernel_rfl) (by kernel_rfl) ?_
    exact h
  · have h := ite_f h (of_decide_eq_false hc)
    refine AtO.go (p' := [1, 1, 1, 0]) (F' := [(2, .box [.lit (.int .i64 0), .own []]), (3, .box [.lit (.int .i64 ((x0.length : Int))), .own (y3_1_L1.map (eOw (eI .i64)))])]) 2 (by kernel_rfl) (by kernel_rfl) ?_
    refine Pt.reg (by kernel_rfl) ?_
    refine AtO.seg 2 (by kernel_rfl) ?_
    refine AtO.go (p' := [1, 1, 1, 1]) (F' := [(2, .box [.lit (.int .i64 ((x0.length : Int))), .own (y3_1_L1.map (eOw (eI .i64)))])]) 0 (by kernel_rfl) (by kernel_rfl) ?_
    exact Pt.ret ((⟨(x0.length : Int), y3_1_L1⟩ : api_Partition)) (by kernel_rfl) (by kernel_rfl) h
theorem L2_step (x0 : List Int) (y3_1_L2 : List (List Int)) (y4_L2 : Int) (y5_L2 : List Int) (y6_L2 : Bool) (y7_L2 : Int) (φ : api_Partition → Prop) (h :
    (if y7_L2 < (x0.length : Int) then
      ∃ a1, lget x0 y7_L2 = some a1 ∧
      ∃ a3, lget x0 y4_L2 = some a3 ∧
      (if a1 = a3 then
        (y5_L2.length + 1) * 8 ≤ 140737488355328 ∧
        (if y6_L2 = true then
          drossref08_group.L3 x0 y3_1_L2 y4_L2 ((y5_L2 ++ [y7_L2])) true y7_L2 φ
        else
          drossref08_group.L3 x0 y3_1_L2 y4_L2 ((y5_L2 ++ [y7_L2])) ((decide (y7_L2 < y4_L2))) y7_L2 φ)
      else
        drossref08_group.L3 x0 y3_1_L2 y4_L2 y5_L2 y6_L2 y7_L2 φ)
    else
      (if y6_L2 = true then
        drossref08_group.L4 x0 y3_1_L2 y4_L2 φ
      else
        (if 1 < (y5_L2.length : Int) then
          (y3_1_L2.length + 1) * 24 ≤ 140737488355328 ∧
          drossref08_group.L4 x0 ((y3_1_L2 ++ [y5_L2])) y4_L2 φ
        else
          drossref08_group.L4 x0 y3_1_L2 y4_L2 φ)))) : L2 x0 y3_1_L2 y4_L2 y5_L2 y6_L2 y7_L2 φ := by
  unfold L2
  refine Pt.loop (p' := [1, 1, 0, 1, 0, 0, 1, 0, 0, 1, 1, 0, 1, 0, 0, 0, 0]) (by kernel_rfl) (by kernel_rfl) ?_
  refine Pt.reg (by kernel_rfl) ?_
  refine AtO.seg 2 (by kernel_rfl) ?_
  refine AtO.val (by kernel_rfl) (val_len (x := (.tmp 18)) (t := 38) (et := 3) (d := .sl (x0.map (eI .i64))) (e := (eI .i64)) (l := x0) (by kernel_rfl) (by kernel_rfl) elemsOf_sl (by kernel_rfl)) ?_
  refine AtO.bool (b := (decide (y7_L2 < (x0.length : Int)))) (by kernel_rfl) (by kernel_rfl) (fun hc => ?_) (fun hc => ?_)
  · have h := ite_t h (of_decide_eq_true hc)
    refine AtO.go (p' := [1, 1, 0, 1, 0, 0, 1, 0, 0, 1, 1, 0, 1, 0, 0, 1, 0, 0, 0]) (F' := [(0, .sl (x0.map (eI .i64))), (2, .box [.lit (.int .i64 0), .own []]), (3, .box [.lit (.int .i64 ((x0.length : Int))), .own (y3_1_L2.map (eOw (eI .i64)))]), (4, .lit (.int .i64 y4_L2)), (5, .own (y5_L2.map (eI .i64))), (6, .lit (.bool y6_L2)), (7, .lit (.int .i64 y7_L2))]) 2 (by kernel_rfl) (by kernel_rfl) ?_
    refine Pt.reg (by kernel_rfl) ?_
    obtain ⟨a1, h2, h⟩ := h
    refine AtO.seg 2 (by kernel_rfl) ?_
    refine AtO.val (by kernel_rfl) (val_idx_sl (t := 38) (x := (.tmp 23)) (ix := (.tmp 24)) (et := 3) (k := 1) (e := (eI .i64)) (l := x0) (i := y7_L2) (q := .i64) (a := a1) (by kernel_rfl) (by kernel_rfl) (by kernel_rfl) (by kernel_rfl) (by kernel_rfl) h2 (by kernel_rfl)) ?_
    obtain ⟨a3, h4, h⟩ := h
    refine AtO.seg 3 (by kernel_rfl) ?_
    refine AtO.val (by kernel_rfl) (val_idx_sl (t := 38) (x := (.tmp 27)) (ix := (.tmp 28)) (et := 3) (k := 1) (e := (eI .i64)) (l := x0) (i := y4_L2) (q := .i64) (a := a3) (by kernel_rfl) (by kernel_rfl) (by kernel_rfl) (by kernel_rfl) (by kernel_rfl) h4 (by kernel_rfl)) ?_
    refine AtO.seg 1 (by kernel_rfl) ?_
    refine AtO.bool (b := (a1 == a3)) (by kernel_rfl) (by kernel_rfl) (fun hc => ?_) (fun hc => ?_)
    · have h := ite_t h (beq_t hc)
      refine AtO.go (p' := [1, 1, 0, 1, 0, 0, 1, 0, 0, 1, 1, 0, 1, 0, 0, 1, 0, 0, 1, 0, 0]) (F' := [(0, .sl (x0.map (eI .i64))), (2, .box [.lit (.int .i64 0), .own []]), (3, .box [.lit (.int .i64 ((x0.length : Int))), .own (y3_1_L2.map (eOw (eI .i64)))]), (4, .lit (.int .i64 y4_L2)), (5, .own (y5_L2.map (eI .i64))), (6, .lit (.bool y6_L2)), (7, .lit (.int .i64 y7_L2))]) 1 (by kernel_rfl) (by kernel_rfl) ?_
      refine Pt.reg (by kernel_rfl) ?_
      obtain ⟨h5, h⟩ := h
      refine AtO.seg 3 (by kernel_rfl) ?_
      refine AtO.op (by kernel_rfl) (app1 (x := (.tmp 32)) (y := (.tmp 34)) (t := 38) (u := 38) (et := 3) (z := .lit (.int .i64 0)) (k := 1) (c := 8) (e := (eI .i64)) (l := y5_L2) (m := [y7_L2]) (by kernel_rfl) (by kernel_rfl) (by kernel_rfl) (by kernel_rfl) (by kernel_rfl) (by kernel_rfl) (by kernel_rfl) (by kernel_rfl) (by kernel_rfl) (by kernel_rfl) (by kernel_rfl) (fun _ => rfl) h5) ?_
      refine AtO.seg 1 (by kernel_rfl) ?_
      refine AtO.go (p' := [1, 1, 0, 1, 0, 0, 1, 0, 0, 1, 1, 0, 1, 0, 0, 1, 0, 0, 1, 0, 1]) (F' := [(0, .sl (x0.map (eI .i64))), (2, .box [.lit (.int .i64 0), .own []]), (3, .box [.lit (.int .i64 ((x0.length : Int))), .own (y3_1_L2.map (eOw (eI .i64)))]), (4, .lit (.int .i64 y4_L2)), (5, .own (((y5_L2 ++ [y7_L2])).map (eI .i64))), (6, .lit (.bool y6_L2)), (7, .lit (.int .i64 y7_L2))]) 0 (by kernel_rfl) (by kernel_rfl) ?_
      refine Pt.reg (by kernel_rfl) ?_
      refine AtO.bool (b := y6_L2) (by kernel_rfl) (by kernel_rfl) (fun hc => ?_) (fun hc => ?_)
      · have h := ite_t h (id hc)
        refine AtO.seg 6 (by kernel_rfl) ?_
        refine AtO.go (p' := [1, 1, 0, 1, 0, 0, 1, 0, 0, 1, 1, 0, 1, 0, 0, 1, 1]) (F' := [(0, .sl (x0.map (eI .i64))), (2, .box [.lit (.int .i64 0), .own []]), (3, .box [.lit (.int .i64 ((x0.length : Int))), .own (y3_1_L2.map (eOw (eI .i64)))]), (4, .lit (.int .i64 y4_L2)), (5, .own (((y5_L2 ++ [y7_L2])).map (eI .i64))), (6, .lit (.bool true)), (7, .lit (.int .i64 y7_L2))]) 0 (by kernel_rfl) (by kernel_rfl) ?_
        exact h
      · have h := ite_f h (fls hc)
        refine AtO.seg 6 (by kernel_rfl) ?_
        refine AtO.go (p' := [1, 1, 0, 1, 0, 0, 1, 0, 0, 1, 1, 0, 1, 0, 0, 1, 1]) (F' := [(0, .sl (x0.map (eI .i64))), (2, .box [.lit (.int .i64 0), .own []]), (3, .box [.lit (.int .i64 ((x0.length : Int))), .own (y3_1_L2.map (eOw (eI .i64)))]), (4, .lit (.int .i64 y4_L2)), (5, .own (((y5_L2 ++ [y7_L2])).map (eI .i64))), (6, .lit (.bool ((decide (y7_L2 < y4_L2))))), (7, .lit (.int .i64 y7_L2))]) 0 (by kernel_rfl) (by kernel_rfl) ?_
        exact h
    · have h := ite_f h (beq_f hc)
      refine AtO.go (p' := [1, 1, 0, 1, 0, 0, 1, 0, 0, 1, 1, 0, 1, 0, 0, 1, 1]) (F' := [(0, .sl (x0.map (eI .i64))), (2, .box [.lit (.int .i64 0), .own []]), (3, .box [.lit (.int .i64 ((x0.length : Int))), .own (y3_1_L2.map (eOw (eI .i64)))]), (4, .lit (.int .i64 y4_L2)), (5, .own (y5_L2.map (eI .i64))), (6, .lit (.bool y6_L2)), (7, .lit (.int .i64 y7_L2))]) 2 (by kernel_rfl) (by kernel_rfl) ?_
      exact h
  · have h := ite_f h (of_decide_eq_false hc)
    refine AtO.go (p' := [1, 1, 0, 1, 0, 0, 1, 0, 0, 1, 1, 1, 0]) (F' := [(0, .sl (x0.map (eI .i64))), (2, .box [.lit (.int .i64 0), .own []]), (3, .box [.lit (.int .i64 ((x0.length : Int))), .own (y3_1_L2.map (eOw (eI .i64)))]), (4, .lit (.int .i64 y4_L2)), (5, .own (y5_L2.map (eI .i64))), (6, .lit (.bool y6_L2))]) 2 (by kernel_rfl) (by kernel_rfl) ?_
    refine Pt.reg (by kernel_rfl) ?_
    refine AtO.bool (b := y6_L2) (by kernel_rfl) (by kernel_rfl) (fun hc => ?_) (fun hc => ?_)
    · have h := ite_t h (id hc)
      refine AtO.seg 6 (by kernel_rfl) ?_
      refine AtO.go (p' := [1, 1, 0, 1, 0, 0, 1, 1]) (F' := [(0, .sl (x0.map (eI .i64))), (2, .box [.lit (.int .i64 0), .own []]), (3, .box [.lit (.int .i64 ((x0.length : Int))), .own (y3_1_L2.map (eOw (eI .i64)))]), (4, .lit (.int .i64 y4_L2))]) 2 (by kernel_rfl) (by kernel_rfl) ?_
      exact h
    · have h := ite_f h (fls hc)
      refine AtO.seg 3 (by kernel_rfl) ?_
      refine AtO.val (by kernel_rfl) (val_len (x := (.tmp 45)) (t := 38) (et := 3) (d := .alias 5 []) (e := (eI .i64)) (l := y5_L2) (by kernel_rfl) (by kernel_rfl) (elemsOf_ow (by kernel_rfl)) (by kernel_rfl)) ?_
      refine AtO.bool (b := (decide (1 < (y5_L2.length : Int)))) (by kernel_rfl) (by kernel_rfl) (fun hc => ?_) (fun hc => ?_)
      · have h := ite_t h (of_decide_eq_true hc)
        refine AtO.seg 1 (by kernel_rfl) ?_
        refine AtO.go (p' := [1, 1, 0, 1, 0, 0, 1, 0, 0, 1, 1, 1, 1, 0]) (F' := [(0, .sl (x0.map (eI .i64))), (2, .box [.lit (.int .i64 0), .own []]), (3, .box [.lit (.int .i64 ((x0.length : Int))), .own (y3_1_L2.map (eOw (eI .i64)))]), (4, .lit (.int .i64 y4_L2)), (5, .own (y5_L2.map (eI .i64)))]) 1 (by kernel_rfl) (by kernel_rfl) ?_
        refine Pt.reg (by kernel_rfl) ?_
        obtain ⟨h6, h⟩ := h
        refine AtO.seg 4 (by kernel_rfl) ?_
        refine AtO.op (by kernel_rfl) (app1 (x := (.tmp 50)) (y := (.tmp 52)) (t := 29) (u := 29) (et := 38) (z := .own []) (k := 1) (c := 24) (e := (eOw (eI .i64))) (l := y3_1_L2) (m := [y5_L2]) (by kernel_rfl) (by kernel_rfl) (by kernel_rfl) (by kernel_rfl) (by kernel_rfl) (by kernel_rfl) (by kernel_rfl) (by kernel_rfl) (by kernel_rfl) (by kernel_rfl) (by kernel_rfl) (fun _ => rfl) h6) ?_
        refine AtO.seg 2 (by kernel_rfl) ?_
        refine AtO.go (p' := [1, 1, 0, 1, 0, 0, 1, 1]) (F' := [(0, .sl (x0.map (eI .i64))), (2, .box [.lit (.int .i64 0), .own []]), (3, .box [.lit (.int .i64 ((x0.length : Int))), .own (((y3_1_L2 ++ [y5_L2])).map (eOw (eI .i64)))]), (4, .lit (.int .i64 y4_L2))]) 0 (by kernel_rfl) (by kernel_rfl) ?_
        exact h
      · have h := ite_f h (of_decide_eq_false hc)
        refine AtO.seg 1 (by kernel_rfl) ?_
        refine AtO.go (p' := [1, 1, 0, 1, 0, 0, 1, 1]) (F' := [(0, .sl (x0.map (eI .i64))), (2, .box [.lit (.int .i64 0), .own []]), (3, .box [.lit (.int .i64 ((x0.length : Int))), .own (y3_1_L2.map (eOw (eI .i64)))]), (4, .lit (.int .i64 y4_L2))]) 2 (by kernel_rfl) (by kernel_rfl) ?_
        exact h
theorem L3_step (x0 : List Int) (y3_1_L3 : List (List Int)) (y4_L3 : Int) (y5_L3 : List Int) (y6_L3 : Bool) (y7_L2 : Int) (φ : api_Partition → Prop) (h :
    drossref08_group.L2 x0 y3_1_L3 y4_L3 y5_L3 y6_L3 ((IntKind.wrap .i64 (y7_L2 + 1))) φ) : L3 x0 y3_1_L3 y4_L3 y5_L3 y6_L3 y7_L2 φ := by
  unfold L3
  refine Pt.reg (by kernel_rfl) ?_
  refine AtO.seg 3 (by kernel_rfl) ?_
  refine AtO.go (p' := [1, 1, 0, 1, 0, 0, 1, 0, 0, 1, 1, 0, 1, 0]) (F' := [(0, .sl (x0.map (eI .i64))), (2, .box [.lit (.int .i64 0), .own []]), (3, .box [.lit (.int .i64 ((x0.length : Int))), .own (y3_1_L3.map (eOw (eI .i64)))]), (4, .lit (.int .i64 y4_L3)), (5, .own (y5_L3.map (eI .i64))), (6, .lit (.bool y6_L3)), (7, .lit (.int .i64 ((IntKind.wrap .i64 (y7_L2 + 1)))))]) 0 (by kernel_rfl) (by kernel_rfl) ?_
  exact h
theorem L4_step (x0 : List Int) (y3_1_L4 : List (List Int)) (y4_L2 : Int) (φ : api_Partition → Prop) (h :
    drossref08_group.L1 x0 y3_1_L4 ((IntKind.wrap .i64 (y4_L2 + 1))) φ) : L4 x0 y3_1_L4 y4_L2 φ := by
  unfold L4
  refine Pt.reg (by kernel_rfl) ?_
  refine AtO.seg 3 (by kernel_rfl) ?_
  refine AtO.go (p' := [1, 1, 0, 1, 0]) (F' := [(0, .sl (x0.map (eI .i64))), (2, .box [.lit (.int .i64 0), .own []]), (3, .box [.lit (.int .i64 ((x0.length : Int))), .own (y3_1_L4.map (eOw (eI .i64)))]), (4, .lit (.int .i64 ((IntKind.wrap .i64 (y4_L2 + 1)))))]) 0 (by kernel_rfl) (by kernel_rfl) ?_
  exact h
theorem enter (x0 : List Int) (φ : api_Partition → Prop) (h :
    drossref08_group.L1 x0 ([]) 0 φ) : ∃ r, φ r ∧ C x0 r := by
  refine Ret.of_at (E := env) (f := 37) (fd := Tryd.f37) (body := B) (p := [0]) (V := W) (F := [(0, .sl (x0.map (eI .i64))), (2, .undef), (3, .undef), (4, .undef), (5, .undef), (6, .undef), (7, .undef), (14, .undef), (20, .undef), (31, .undef), (48, .undef)]) (res := res) (φ := φ) (ds := [.sl (x0.map (eI .i64))]) (by kernel_rfl) (by kernel_rfl) (by kernel_rfl) ⟨Nat.le_of_ble_eq_true (by kernel_rfl), Nat.le_of_ble_eq_true (by kernel_rfl)⟩ (by kernel_rfl) (by kernel_rfl) (by kernel_rfl) ?_
  refine Pt.reg (by kernel_rfl) ?_
  refine AtO.seg 1 (by kernel_rfl) ?_
  refine AtO.go (p' := [1, 0]) (F' := [(0, .sl (x0.map (eI .i64))), (2, .box [.lit (.int .i64 0), .own []])]) 0 (by kernel_rfl) (by kernel_rfl) ?_
  refine Pt.reg (by kernel_rfl) ?_
  refine AtO.seg 1 (by kernel_rfl) ?_
  refine AtO.val (by kernel_rfl) (val_len (x := (.tmp 8)) (t := 38) (et := 3) (d := .sl (x0.map (eI .i64))) (e := (eI .i64)) (l := x0) (by kernel_rfl) (by kernel_rfl) elemsOf_sl (by kernel_rfl)) ?_
  refine AtO.seg 3 (by kernel_rfl) ?_
  refine AtO.go (p' := [1, 1, 0, 0]) (F' := [(0, .sl (x0.map (eI .i64))), (2, .box [.lit (.int .i64 0), .own []]), (3, .box [.lit (.int .i64 ((x0.length : Int))), .own []])]) 0 (by kernel_rfl) (by kernel_rfl) ?_
  refine Pt.reg (by kernel_rfl) ?_
  refine AtO.seg 1 (by kernel_rfl) ?_
  refine AtO.go (p' := [1, 1, 0, 1, 0]) (F' := [(0, .sl (x0.map (eI .i64))), (2, .box [.lit (.int .i64 0), .own []]), (3, .box [.lit (.int .i64 ((x0.length : Int))), .own []]), (4, .lit (.int .i64 0))]) 0 (by kernel_rfl) (by kernel_rfl) ?_
  exact h
end drossref08_group
end Go.Own

namespace Go.Own
open Go.Proofs D
set_option maxRecDepth 100000
set_option maxHeartbeats 4000000
namespace drossref08_From
noncomputable def B : Code := (Tryd.f19.body).getD .skip
def W : List Nat := [0, 2, 3, 4, 8]
def res (r : api_Partition) : D × List D := (.agg [.lit (.int .i64 r.Rows), .own (r.Classes.map (eOw (eI .i64)))], [])
def C (x0 : List Int) (r : api_Partition) : Prop := Ret env 19 [.sl (x0.map (eI .u8))] (res r).1 (res r).2
def L1 (x0 : List Int) (y3_L1 : List Int) (y4_L1 : Int) (φ : api_Partition → Prop) : Prop := Pt env 19 W B [1, 1, 0, 1, 0] [(0, .sl (x0.map (eI .u8))), (2, .box [.lit (.int .i64 0), .own []]), (3, .own (y3_L1.map (eI .i64))), (4, .lit (.int .i64 y4_L1))] (Lv env 19 Tryd.f19 1 res φ)
theorem L1_step (x0 : List Int) (y3_L1 : List Int) (y4_L1 : Int) (φ : api_Partition → Prop) (h :
    (if y4_L1 < (x0.length : Int) then
      ∃ a1, lget x0 y4_L1 = some a1 ∧
      (y3_L1.length + 1) * 8 ≤ 140737488355328 ∧
      drossref08_From.L1 x0 ((y3_L1 ++ [(IntKind.wrap .i64 a1)])) ((IntKind.wrap .i64 (y4_L1 + 1))) φ
    else
      ∃ r4 : api_Partition, drossref08_group.C y3_L1 r4 ∧
      φ r4)) : L1 x0 y3_L1 y4_L1 φ := by
  unfold L1
  refine Pt.loop (p' := [1, 1, 0, 1, 0, 0, 0, 0]) (by kernel_rfl) (by kernel_rfl) ?_
  refine Pt.reg (by kernel_rfl) ?_
  refine AtO.seg 2 (by kernel_rfl) ?_
  refine AtO.val (by kernel_rfl) (val_len (x := (.tmp 6)) (t := 40) (et := 5) (d := .sl (x0.map (eI .u8))) (e := (eI .u8)) (l := x0) (by kernel_rfl) (by kernel_rfl) elemsOf_sl (by kernel_rfl)) ?_
  refine AtO.bool (b := (decide (y4_L1 < (x0.length : Int)))) (by kernel_rfl) (by kernel_rfl) (fun hc => ?_) (fun hc => ?_)
  · have h := ite_t h (of_decide_eq_true hc)
    refine AtO.go (p' := [1, 1, 0, 1, 0, 0, 1, 0, 0]) (F' := [(0, .sl (x0.map (eI .u8))), (2, .box [.lit (.int .i64 0), .own []]), (3, .own (y3_L1.map (eI .i64))), (4, .lit (.int .i64 y4_L1))]) 2 (by kernel_rfl) (by kernel_rfl) ?_
    refine Pt.reg (by kernel_rfl) ?_
    obtain ⟨a1, h2, h⟩ := h
    refine AtO.seg 3 (by kernel_rfl) ?_
    refine AtO.val (by kernel_rfl) (val_idx_sl (t := 40) (x := (.tmp 12)) (ix := (.tmp 13)) (et := 5) (k := 1) (e := (eI .u8)) (l := x0) (i := y4_L1) (q := .i64) (a := a1) (by kernel_rfl) (by kernel_rfl) (by kernel_rfl) (by kernel_rfl) (by kernel_rfl) h2 (by kernel_rfl)) ?_
    obtain ⟨h3, h⟩ := h
    refine AtO.seg 3 (by kernel_rfl) ?_
    refine AtO.op (by kernel_rfl) (app1 (x := (.tmp 11)) (y := (.tmp 17)) (t := 38) (u := 38) (et := 3) (z := .lit (.int .i64 0)) (k := 1) (c := 8) (e := (eI .i64)) (l := y3_L1) (m := [(IntKind.wrap .i64 a1)]) (by kernel_rfl) (by kernel_rfl) (by kernel_rfl) (by kernel_rfl) (by kernel_rfl) (by kernel_rfl) (by kernel_rfl) (by kernel_rfl) (by kernel_rfl) (by kernel_rfl) (by kernel_rfl) (fun _ => rfl) h3) ?_
    refine AtO.seg 1 (by kernel_rfl) ?_
    refine AtO.go (p' := [1, 1, 0, 1, 0, 0, 1, 1]) (F' := [(0, .sl (x0.map (eI .u8))), (2, .box [.lit (.int .i64 0), .own []]), (3, .own (((y3_L1 ++ [(IntKind.wrap .i64 a1)])).map (eI .i64))), (4, .lit (.int .i64 y4_L1))]) 0 (by kernel_rfl) (by kernel_rfl) ?_
    refine Pt.reg (by kernel_rfl) ?_
    refine AtO.seg 3 (by kernel_rfl) ?_
    refine AtO.go (p' := [1, 1, 0, 1, 0]) (F' := [(0, .sl (x0.map (eI .u8))), (2, .box [.lit (.int .i64 0), .own []]), (3, .own (((y3_L1 ++ [(IntKind.wrap .i64 a1)])).map (eI .i64))), (4, .lit (.int .i64 ((IntKind.wrap .i64 (y4_L1 + 1)))))]) 0 (by kernel_rfl) (by kernel_rfl) ?_
    exact h
  · have h := ite_f h (of_decide_eq_false hc)
    refine AtO.go (p' := [1, 1, 1, 0]) (F' := [(2, .box [.lit (.int .i64 0), .own []]), (3, .own (y3_L1.map (eI .i64)))]) 2 (by kernel_rfl) (by kernel_rfl) ?_
    refine Pt.reg (by kernel_rfl) ?_
    obtain ⟨r4, h5, h⟩ := h
    refine AtO.seg 1 (by kernel_rfl) ?_
    refine AtO.call0 (x := (.func 37)) (g := 37) (caps := []) (agl := [.opn (.tmp 19)]) (ds := [.sl (y3_L1.map (eI .i64))]) (r := .agg [.lit (.int .i64 r4.Rows), .own (r4.Classes.map (eOw (eI .i64)))]) (r' := .agg [.lit (.int .i64 r4.Rows), .own (r4.Classes.map (eOw (eI .i64)))]) (ms := [none]) (by kernel_rfl) (by kernel_rfl) (by kernel_rfl) (by kernel_rfl) (by kernel_rfl) (by kernel_rfl) (pass_snap (a := .opn (.tmp 19)) (d0 := .alias 3 []) (d := .sl (y3_L1.map (eI .i64))) (by kernel_rfl) (by kernel_rfl) (snap_ow (s := 3) (ps := []) (l := y3_L1) (e := (eI .i64)) (e' := (eI .i64)) (fun _ => rfl) (by kernel_rfl)) pass_nil) h5 (flat_agg (flts_cons rfl (flts_cons (flat_ow (e := (eOw (eI .i64))) (Flt.ow (fun _ => rfl))) flts_nil))) (by kernel_rfl) ?_
    refine AtO.seg 1 (by kernel_rfl) ?_
    refine AtO.go (p' := [1, 1, 1, 1]) (F' := [(2, .box [.lit (.int .i64 r4.Rows), .own (r4.Classes.map (eOw (eI .i64)))])]) 0 (by kernel_rfl) (by kernel_rfl) ?_
    exact Pt.ret r4 (by kernel_rfl) (by kernel_rfl) h
theorem enter (x0 : List Int) (φ : api_Partition → Prop) (h :
    drossref08_From.L1 x0 ([]) 0 φ) : ∃ r, φ r ∧ C x0 r := by
  refine Ret.of_at (E := env) (f := 19) (fd := Tryd.f19) (body := B) (p := [0]) (V := W) (F := [(0, .sl (x0.map (eI .u8))), (2, .undef), (3, .undef), (4, .undef), (8, .undef)]) (res := res) (φ := φ) (ds := [.sl (x0.map (eI .u8))]) (by kernel_rfl) (by kernel_rfl) (by kernel_rfl) ⟨Nat.le_of_ble_eq_true (by kernel_rfl), Nat.le_of_ble_eq_true (by kernel_rfl)⟩ (by kernel_rfl) (by kernel_rfl) (by kernel_rfl) ?_
  refine Pt.reg (by kernel_rfl) ?_
  refine AtO.seg 1 (by kernel_rfl) ?_
  refine AtO.go (p' := [1, 0]) (F' := [(0, .sl (x0.map (eI .u8))), (2, .box [.lit (.int .i64 0), .own []])]) 0 (by kernel_rfl) (by kernel_rfl) ?_
  refine Pt.reg (by kernel_rfl) ?_
  refine AtO.seg 1 (by kernel_rfl) ?_
  refine AtO.go (p' := [1, 1, 0, 0]) (F' := [(0, .sl (x0.map (eI .u8))), (2, .box [.lit (.int .i64 0), .own []]), (3, .own [])]) 0 (by kernel_rfl) (by kernel_rfl) ?_
  refine Pt.reg (by kernel_rfl) ?_
  refine AtO.seg 1 (by kernel_rfl) ?_
  refine AtO.go (p' := [1, 1, 0, 1, 0]) (F' := [(0, .sl (x0.map (eI .u8))), (2, .box [.lit (.int .i64 0), .own []]), (3, .own []), (4, .lit (.int .i64 0))]) 0 (by kernel_rfl) (by kernel_rfl) ?_
  exact h
end drossref08_From
end Go.Own

namespace Go.Own
open Go.Proofs D
set_option maxRecDepth 100000
set_option maxHeartbeats 4000000
namespace partition_groups_2_int_1
noncomputable def B : Code := (Tryd.f64.body).getD .skip
def W : List Nat := [0, 2]
def res (r : Bool) : D × List D := (.lit (.bool r), [])
def C (x0 : List Int) (r : Bool) : Prop := Ret env 64 [.sl (x0.map (eI .i64))] (res r).1 (res r).2
theorem enter (x0 : List Int) (φ : Bool → Prop) (h :
    φ ((decide ((x0.length : Int) < 2)))) : ∃ r, φ r ∧ C x0 r := by
  refine Ret.of_at (E := env) (f := 64) (fd := Tryd.f64) (body := B) (p := [0]) (V := W) (F := [(0, .sl (x0.map (eI .i64))), (2, .undef)]) (res := res) (φ := φ) (ds := [.sl (x0.map (eI .i64))]) (by kernel_rfl) (by kernel_rfl) (by kernel_rfl) ⟨Nat.le_of_ble_eq_true (by kernel_rfl), Nat.le_of_ble_eq_true (by kernel_rfl)⟩ (by kernel_rfl) (by kernel_rfl) (by kernel_rfl) ?_
  refine Pt.reg (by kernel_rfl) ?_
  refine AtO.seg 1 (by kernel_rfl) ?_
  refine AtO.go (p' := [1, 0]) (F' := [(0, .sl (x0.map (eI .i64)))]) 0 (by kernel_rfl) (by kernel_rfl) ?_
  refine Pt.reg (by kernel_rfl) ?_
  refine AtO.seg 1 (by kernel_rfl) ?_
  refine AtO.val (by kernel_rfl) (val_len (x := (.tmp 3)) (t := 38) (et := 3) (d := .sl (x0.map (eI .i64))) (e := (eI .i64)) (l := x0) (by kernel_rfl) (by kernel_rfl) elemsOf_sl (by kernel_rfl)) ?_
  refine AtO.seg 2 (by kernel_rfl) ?_
  refine AtO.go (p' := [1, 1]) (F' := [(2, .lit (.bool ((decide ((x0.length : Int) < 2)))))]) 0 (by kernel_rfl) (by kernel_rfl) ?_
  exact Pt.ret ((decide ((x0.length : Int) < 2))) (by kernel_rfl) (by kernel_rfl) h
end partition_groups_2_int_1
end Go.Own

namespace Go.Own
open Go.Proofs D
set_option maxRecDepth 100000
set_option maxHeartbeats 4000000
namespace slices_IndexFunc_ssint_sint_partition_groups_2_int_1
noncomputable def B : Code := (Tryd.f66.body).getD .skip
def W : List Nat := [0, 1, 4, 5, 7, 8, 9, 16]
def res (r : Int) : D × List D := (.lit (.int .i64 r), [])
def C (x0 : List (List Int)) (r : Int) : Prop := Ret env 66 [.sl (x0.map (eSl (eI .i64))), .fn 64 []] (res r).1 (res r).2
def L1 (x0 : List (List Int)) (y8_L1 : Int) (φ : Int → Prop) : Prop := Pt env 66 W B [1, 0, 1, 0] [(0, .sl (x0.map (eSl (eI .i64)))), (1, .fn 64 []), (7, .lit (.int .i64 ((x0.length : Int)))), (8, .lit (.int .i64 y8_L1))] (Lv env 66 Tryd.f66 2 res φ)
theorem L1_step (x0 : List (List Int)) (y8_L1 : Int) (φ : Int → Prop) (h :
    (if y8_L1 < (x0.length : Int) then
      ∃ a1, lget x0 y8_L1 = some a1 ∧
      ∃ r3 : Bool, partition_groups_2_int_1.C a1 r3 ∧
      (if r3 = true then
        φ y8_L1
      else
        slices_IndexFunc_ssint_sint_partition_groups_2_int_1.L1 x0 ((IntKind.wrap .i64 (y8_L1 + 1))) φ)
    else
      φ ((-1)))) : L1 x0 y8_L1 φ := by
  unfold L1
  refine Pt.loop (p' := [1, 0, 1, 0, 0, 0]) (by kernel_rfl) (by kernel_rfl) ?_
  refine Pt.reg (by kernel_rfl) ?_
  refine AtO.bool (b := (decide (y8_L1 < (x0.length : Int)))) (by kernel_rfl) (by kernel_rfl) (fun hc => ?_) (fun hc => ?_)
  · have h := ite_t h (of_decide_eq_true hc)
    refine AtO.go (p' := [1, 0, 1, 0, 0, 1, 1, 0, 0, 0]) (F' := [(0, .sl (x0.map (eSl (eI .i64)))), (1, .fn 64 []), (7, .lit (.int .i64 ((x0.length : Int)))), (8, .lit (.int .i64 y8_L1))]) 2 (by kernel_rfl) (by kernel_rfl) ?_
    refine Pt.reg (by kernel_rfl) ?_
    refine AtO.seg 2 (by kernel_rfl) ?_
    refine AtO.go (p' := [1, 0, 1, 0, 0, 1, 1, 0, 0, 1, 0]) (F' := [(0, .sl (x0.map (eSl (eI .i64)))), (1, .fn 64 []), (5, .lit (.int .i64 y8_L1)), (7, .lit (.int .i64 ((x0.length : Int)))), (8, .lit (.int .i64 y8_L1))]) 0 (by kernel_rfl) (by kernel_rfl) ?_
    refine Pt.reg (by kernel_rfl) ?_
    obtain ⟨a1, h2, h⟩ := h
    refine AtO.seg 3 (by kernel_rfl) ?_
    refine AtO.val (by kernel_rfl) (val_idx_sl (t := 29) (x := (.tmp 12)) (ix := (.tmp 13)) (et := 38) (k := 1) (e := (eSl (eI .i64))) (l := x0) (i := y8_L1) (q := .i64) (a := a1) (by kernel_rfl) (by kernel_rfl) (by kernel_rfl) (by kernel_rfl) (by kernel_rfl) h2 (by kernel_rfl)) ?_
    obtain ⟨r3, h4, h⟩ := h
    refine AtO.seg 1 (by kernel_rfl) ?_
    refine AtO.call0 (x := (.tmp 11)) (g := 64) (caps := []) (agl := [.opn (.tmp 15)]) (ds := [.sl (a1.map (eI .i64))]) (r := .lit (.bool r3)) (r' := .lit (.bool r3)) (ms := [none]) (by kernel_rfl) (by kernel_rfl) (by kernel_rfl) (by kernel_rfl) (by kernel_rfl) (by kernel_rfl) (pass_snap (a := .opn (.tmp 15)) (d0 := .sl (a1.map (eI .i64))) (d := .sl (a1.map (eI .i64))) (by kernel_rfl) (by kernel_rfl) (by kernel_rfl) pass_nil) h4 rfl (by kernel_rfl) ?_
    refine AtO.putb (fun hc => ?_) (fun hc => ?_)
    · have h := ite_t h (id hc)
      refine AtO.go (p' := [1, 0, 1, 0, 0, 1, 1, 0, 0, 1, 1, 0, 0]) (F' := [(5, .lit (.int .i64 y8_L1))]) 1 (by kernel_rfl) (by kernel_rfl) ?_
      refine Pt.reg (by kernel_rfl) ?_
      refine AtO.seg 2 (by kernel_rfl) ?_
      refine AtO.go (p' := [1, 0, 1, 0, 0, 1, 1, 0, 0, 1, 1, 0, 1]) (F' := [(4, .lit (.int .i64 y8_L1))]) 0 (by kernel_rfl) (by kernel_rfl) ?_
      exact Pt.ret y8_L1 (by kernel_rfl) (by kernel_rfl) h
    · have h := ite_f h (fls hc)
      refine AtO.go (p' := [1, 0, 1, 0, 0, 1, 1, 1]) (F' := [(0, .sl (x0.map (eSl (eI .i64)))), (1, .fn 64 []), (7, .lit (.int .i64 ((x0.length : Int)))), (8, .lit (.int .i64 y8_L1))]) 2 (by kernel_rfl) (by kernel_rfl) ?_
      refine Pt.reg (by kernel_rfl) ?_
      refine AtO.seg 2 (by kernel_rfl) ?_
      refine AtO.go (p' := [1, 0, 1, 0]) (F' := [(0, .sl (x0.map (eSl (eI .i64)))), (1, .fn 64 []), (7, .lit (.int .i64 ((x0.length : Int)))), (8, .lit (.int .i64 ((IntKind.wrap .i64 (y8_L1 + 1)))))]) 0 (by kernel_rfl) (by kernel_rfl) ?_
      exact h
  · have h := ite_f h (of_decide_eq_false hc)
    refine AtO.go (p' := [1, 1, 0]) (F' := []) 2 (by kernel_rfl) (by kernel_rfl) ?_
    refine Pt.reg (by kernel_rfl) ?_
    refine AtO.seg 1 (by kernel_rfl) ?_
    refine AtO.go (p' := [1, 1, 1]) (F' := [(4, .lit (.int .i64 ((-1))))]) 0 (by kernel_rfl) (by kernel_rfl) ?_
    exact Pt.ret ((-1)) (by kernel_rfl) (by kernel_rfl) h
theorem enter (x0 : List (List Int)) (φ : Int → Prop) (h :
    slices_IndexFunc_ssint_sint_partition_groups_2_int_1.L1 x0 0 φ) : ∃ r, φ r ∧ C x0 r := by
  refine Ret.of_at (E := env) (f := 66) (fd := Tryd.f66) (body := B) (p := [0]) (V := W) (F := [(0, .sl (x0.map (eSl (eI .i64)))), (1, .fn 64 []), (4, .undef), (5, .undef), (7, .undef), (8, .undef), (9, .undef), (16, .undef)]) (res := res) (φ := φ) (ds := [.sl (x0.map (eSl (eI .i64))), .fn 64 []]) (by kernel_rfl) (by kernel_rfl) (by kernel_rfl) ⟨Nat.le_of_ble_eq_true (by kernel_rfl), Nat.le_of_ble_eq_true (by kernel_rfl)⟩ (by kernel_rfl) (by kernel_rfl) (by kernel_rfl) ?_
  refine Pt.reg (by kernel_rfl) ?_
  refine AtO.seg 1 (by kernel_rfl) ?_
  refine AtO.go (p' := [1, 0, 0]) (F' := [(0, .sl (x0.map (eSl (eI .i64)))), (1, .fn 64 [])]) 0 (by kernel_rfl) (by kernel_rfl) ?_
  refine Pt.reg (by kernel_rfl) ?_
  refine AtO.seg 1 (by kernel_rfl) ?_
  refine AtO.val (by kernel_rfl) (val_len (x := (.tmp 6)) (t := 29) (et := 38) (d := .sl (x0.map (eSl (eI .i64)))) (e := (eSl (eI .i64))) (l := x0) (by kernel_rfl) (by kernel_rfl) elemsOf_sl (by kernel_rfl)) ?_
  refine AtO.seg 1 (by kernel_rfl) ?_
  refine AtO.go (p' := [1, 0, 1, 0]) (F' := [(0, .sl (x0.map (eSl (eI .i64)))), (1, .fn 64 []), (7, .lit (.int .i64 ((x0.length : Int)))), (8, .lit (.int .i64 0))]) 0 (by kernel_rfl) (by kernel_rfl) ?_
  exact h
end slices_IndexFunc_ssint_sint_partition_groups_2_int_1
end Go.Own

namespace Go.Own
open Go.Proofs D
set_option maxRecDepth 100000
set_option maxHeartbeats 4000000
namespace slices_DeleteFunc_ssint_sint_partition_groups_2_int_1
noncomputable def B : Code := (Tryd.f63.body).getD .skip
def W : List Nat := [0, 1, 4, 5, 6, 7, 12, 19, 29]
def res (r : (List (List Int) × Bool)) : D × List D := ((sown (r.1.map (eSl (eI .i64))) r.2), [])
def C (k0_0 : List (List Int)) (r : (List (List Int) × Bool)) : Prop := Ret env 63 [.own (k0_0.map (eSl (eI .i64))), .fn 64 []] (res r).1 (res r).2
def L1 (k0_0 : List (List Int)) (r1 : Int) (y6_L1 : Int) (φ : (List (List Int) × Bool) → Prop) : Prop := Pt env 63 W B [1, 1, 1, 0, 1, 0] [(0, .own (k0_0.map (eSl (eI .i64)))), (1, .fn 64 []), (5, .lit (.int .i64 r1)), (6, .lit (.int .i64 y6_L1))] (Lv env 63 Tryd.f63 2 res φ)
def L2 (k0_0 : List (List Int)) (r1 : Int) (y6_L1 : Int) (φ : (List (List Int) × Bool) → Prop) : Prop := Pt env 63 W B [1, 1, 1, 0, 1, 0, 0, 1, 1] [(0, .own (k0_0.map (eSl (eI .i64)))), (1, .fn 64 []), (5, .lit (.int .i64 r1)), (6, .lit (.int .i64 y6_L1))] (Lv env 63 Tryd.f63 2 res φ)
theorem L1_step (k0_0 : List (List Int)) (r1 : Int) (y6_L1 : Int) (φ : (List (List Int) × Bool) → Prop) (h :
    (if y6_L1 < (k0_0.length : Int) then
      ∃ a3, lget k0_0 y6_L1 = some a3 ∧
      ∃ r5 : Bool, partition_groups_2_int_1.C a3 r5 ∧
      (if r5 = true then
        slices_DeleteFunc_ssint_sint_partition_groups_2_int_1.L2 k0_0 r1 y6_L1 φ
      else
        ∃ a7, lget k0_0 r1 = some a7 ∧
        slices_DeleteFunc_ssint_sint_partition_groups_2_int_1.L2 ((lset k0_0 r1 a3)) ((IntKind.wrap .i64 (r1 + 1))) y6_L1 φ)
    else
      0 ≤ r1 ∧
      (r1.toNat ≤ k0_0.length ∧ k0_0.length ≤ k0_0.length) ∧
      r1.toNat + (k0_0.length - r1.toNat) ≤ k0_0.length ∧
      0 ≤ r1 ∧
      r1.toNat + (k0_0.length - r1.toNat) ≤ k0_0.length ∧
      r1.toNat ≤ k0_0.length ∧
      (r1.toNat + (k0_0.length - r1.toNat) ≤ k0_0.length ∧ r1.toNat ≤ k0_0.length ∧ r1.toNat ≤ r1.toNat) ∧
      φ (⟨(List.take r1.toNat k0_0), (!(((List.take r1.toNat k0_0)).isEmpty))⟩))) : L1 k0_0 r1 y6_L1 φ := by
  unfold L1
  refine Pt.loop (p' := [1, 1, 1, 0, 1, 0, 0, 0, 0]) (by kernel_rfl) (by kernel_rfl) ?_
  refine Pt.reg (by kernel_rfl) ?_
  refine AtO.seg 2 (by kernel_rfl) ?_
  refine AtO.val (by kernel_rfl) (val_len (x := (.tmp 17)) (t := 29) (et := 38) (d := .alias 0 []) (e := (eSl (eI .i64))) (l := k0_0) (by kernel_rfl) (by kernel_rfl) (elemsOf_ow (by kernel_rfl)) (by kernel_rfl)) ?_
  refine AtO.bool (b := (decide (y6_L1 < (k0_0.length : Int)))) (by kernel_rfl) (by kernel_rfl) (fun hc => ?_) (fun hc => ?_)
  · have h := ite_t h (of_decide_eq_true hc)
    refine AtO.go (p' := [1, 1, 1, 0, 1, 0, 0, 1, 0, 0, 0]) (F' := [(0, .own (k0_0.map (eSl (eI .i64)))), (1, .fn 64 []), (5, .lit (.int .i64 r1)), (6, .lit (.int .i64 y6_L1))]) 2 (by kernel_rfl) (by kernel_rfl) ?_
    refine Pt.reg (by kernel_rfl) ?_
    obtain ⟨a3, h4, h⟩ := h
    refine AtO.seg 2 (by kernel_rfl) ?_
    refine AtO.val (by kernel_rfl) (val_idx_ow (s := 0) (ps := []) (t := 29) (x := (.tmp 22)) (ix := (.tmp 23)) (et := 38) (k := 1) (e := (eSl (eI .i64))) (l := k0_0) (i := y6_L1) (q := .i64) (a := a3) (by kernel_rfl) (by kernel_rfl) (by kernel_rfl) (by kernel_rfl) (by kernel_rfl) (by kernel_rfl) h4 (by kernel_rfl)) ?_
    refine AtO.val (by kernel_rfl) (val_load_ow (t := 38) (x := (.tmp 24)) (s := 0) (ps := []) (n := (y6_L1.toNat)) (c := 0) (e := (eSl (eI .i64))) (l := k0_0) (a := a3) (d := .sl (a3.map (eI .i64))) (by kernel_rfl) (by kernel_rfl) (by kernel_rfl) (by kernel_rfl) (lget_some h4).2 (by kernel_rfl)) ?_
    refine AtO.seg 1 (by kernel_rfl) ?_
    refine AtO.go (p' := [1, 1, 1, 0, 1, 0, 0, 1, 0, 0, 1, 0]) (F' := [(0, .own (k0_0.map (eSl (eI .i64)))), (1, .fn 64 []), (5, .lit (.int .i64 r1)), (6, .lit (.int .i64 y6_L1)), (7, .sl (a3.map (eI .i64)))]) 0 (by kernel_rfl) (by kernel_rfl) ?_
    refine Pt.reg (by kernel_rfl) ?_
    obtain ⟨r5, h6, h⟩ := h
    refine AtO.seg 2 (by kernel_rfl) ?_
    refine AtO.call0 (x := (.tmp 26)) (g := 64) (caps := []) (agl := [.opn (.tmp 27)]) (ds := [.sl (a3.map (eI .i64))]) (r := .lit (.bool r5)) (r' := .lit (.bool r5)) (ms := [none]) (by kernel_rfl) (by kernel_rfl) (by kernel_rfl) (by kernel_rfl) (by kernel_rfl) (by kernel_rfl) (pass_snap (a := .opn (.tmp 27)) (d0 := .sl (a3.map (eI .i64))) (d := .sl (a3.map (eI .i64))) (by kernel_rfl) (by kernel_rfl) (by kernel_rfl) pass_nil) h6 rfl (by kernel_rfl) ?_
    refine AtO.putb (fun hc => ?_) (fun hc => ?_)
    · have h := ite_t h (id hc)
      refine AtO.seg 1 (by kernel_rfl) ?_
      refine AtO.go (p' := [1, 1, 1, 0, 1, 0, 0, 1, 1]) (F' := [(0, .own (k0_0.map (eSl (eI .i64)))), (1, .fn 64 []), (5, .lit (.int .i64 r1)), (6, .lit (.int .i64 y6_L1))]) 2 (by kernel_rfl) (by kernel_rfl) ?_
      exact h
    · have h := ite_f h (fls hc)
      refine AtO.seg 1 (by kernel_rfl) ?_
      refine AtO.go (p' := [1, 1, 1, 0, 1, 0, 0, 1, 0, 0, 1, 1, 0, 0]) (F' := [(0, .own (k0_0.map (eSl (eI .i64)))), (1, .fn 64 []), (5, .lit (.int .i64 r1)), (6, .lit (.int .i64 y6_L1)), (7, .sl (a3.map (eI .i64)))]) 1 (by kernel_rfl) (by kernel_rfl) ?_
      refine Pt.reg (by kernel_rfl) ?_
      obtain ⟨a7, h8, h⟩ := h
      refine AtO.seg 3 (by kernel_rfl) ?_
      refine AtO.val (by kernel_rfl) (val_idx_ow (s := 0) (ps := []) (t := 29) (x := (.tmp 30)) (ix := (.tmp 31)) (et := 38) (k := 1) (e := (eSl (eI .i64))) (l := k0_0) (i := r1) (q := .i64) (a := a7) (by kernel_rfl) (by kernel_rfl) (by kernel_rfl) (by kernel_rfl) (by kernel_rfl) (by kernel_rfl) h8 (by kernel_rfl)) ?_
      refine AtO.op (by kernel_rfl) (store1 (t := 38) (x := (.tmp 33)) (y := (.tmp 32)) (s := 0) (ps := []) (n := (r1.toNat)) (c := 0) (e := (eSl (eI .i64))) (l := k0_0) (a := a7) (b := a3) (k := 1) (d := .sl (a3.map (eI .i64))) (by kernel_rfl) (by kernel_rfl) (by kernel_rfl) (by kernel_rfl) (lget_some h8).2 (by kernel_rfl) (by kernel_rfl) (by kernel_rfl) (by kernel_rfl) (by kernel_rfl) (setG_eq (by kernel_rfl))) ?_
      refine AtO.go (p' := [1, 1, 1, 0, 1, 0, 0, 1, 0, 0, 1, 1, 0, 1]) (F' := [(0, .own (((lset k0_0 r1 a3)).map (eSl (eI .i64)))), (1, .fn 64 []), (5, .lit (.int .i64 r1)), (6, .lit (.int .i64 y6_L1))]) 0 (by kernel_rfl) (by kernel_rfl) ?_
      refine Pt.reg (by kernel_rfl) ?_
      refine AtO.seg 3 (by kernel_rfl) ?_
      refine AtO.go (p' := [1, 1, 1, 0, 1, 0, 0, 1, 1]) (F' := [(0, .own (((lset k0_0 r1 a3)).map (eSl (eI .i64)))), (1, .fn 64 []), (5, .lit (.int .i64 ((IntKind.wrap .i64 (r1 + 1))))), (6, .lit (.int .i64 y6_L1))]) 0 (by kernel_rfl) (by kernel_rfl) ?_
      exact h
  · have h := ite_f h (of_decide_eq_false hc)
    refine AtO.go (p' := [1, 1, 1, 1, 0]) (F' := [(0, .own (k0_0.map (eSl (eI .i64)))), (5, .lit (.int .i64 r1))]) 2 (by kernel_rfl) (by kernel_rfl) ?_
    refine Pt.reg (by kernel_rfl) ?_
    obtain ⟨h9, h⟩ := h
    obtain ⟨h10, h⟩ := h
    refine AtO.seg 2 (by kernel_rfl) ?_
    refine AtO.val (by kernel_rfl) (val_slice_ow (s := 0) (ps := []) (t := 29) (x := (.tmp 36)) (lo := (some (.tmp 37))) (hi := none) (lo' := some (r1).toNat) (hi' := none) (e := (eSl (eI .i64))) (l := k0_0) (et := 38) (k := 1) (by kernel_rfl) (by kernel_rfl) (elemsOf_ow (by kernel_rfl)) (optNat_some (i := r1) (q := .i64) (by kernel_rfl) h9) optNat_none (by kernel_rfl) (by kernel_rfl) (fun _ => rfl) (by kernel_rfl) h10.1 h10.2) ?_
    obtain ⟨h11, h⟩ := h
    refine AtO.op (by kernel_rfl) (op_clear (t := 29) (x := (.tmp 38)) (s := 0) (ps := []) (off := r1.toNat) (len := (k0_0.length - r1.toNat)) (l := k0_0) (e := (eSl (eI .i64))) (et := 38) (z := .own []) (k := 1) (by kernel_rfl) (by kernel_rfl) (by kernel_rfl) (by kernel_rfl) (by kernel_rfl) (by kernel_rfl) (by kernel_rfl) (by kernel_rfl) (fun _ => rfl) h11 (by kernel_rfl)) ?_
    refine AtO.go (p' := [1, 1, 1, 1, 1, 0]) (F' := [(0, .own (clr (eSl (eI .i64)) k0_0 r1.toNat ((k0_0.length - r1.toNat)) (.own []))), (5, .lit (.int .i64 r1))]) 0 (by kernel_rfl) (by kernel_rfl) ?_
    refine Pt.reg (by kernel_rfl) ?_
    obtain ⟨h12, h⟩ := h
    obtain ⟨h13, h⟩ := h
    obtain ⟨h14, h⟩ := h
    refine AtO.seg 2 (by kernel_rfl) ?_
    refine AtO.val (by kernel_rfl) (val_slice_clr (t := 29) (x := (.tmp 39)) (hi := (some (.tmp 40))) (hi' := r1.toNat) (e := (eSl (eI .i64))) (l := k0_0) (off := r1.toNat) (len := (k0_0.length - r1.toNat)) (z := .own []) (et := 38) (k := 1) (s := 0) (ps := []) (by kernel_rfl) (by kernel_rfl) (by kernel_rfl) (optNat_some (i := r1) (q := .i64) (by kernel_rfl) h12) (by kernel_rfl) (by kernel_rfl) (fun _ => rfl) (by kernel_rfl) (by kernel_rfl) h13 h14) ?_
    refine AtO.seg 1 (by kernel_rfl) ?_
    refine AtO.go (p' := [1, 1, 1, 1, 1, 1]) (F' := [(0, .own (clr (eSl (eI .i64)) k0_0 r1.toNat ((k0_0.length - r1.toNat)) (.own []))), (4, .sub 0 [] 0 r1.toNat)]) 0 (by kernel_rfl) (by kernel_rfl) ?_
    obtain ⟨h15, h⟩ := h
    exact Pt.ret (⟨(List.take r1.toNat k0_0), (!(((List.take r1.toNat k0_0)).isEmpty))⟩) (by kernel_rfl) (leave_sub (t := 4) (s := 0) (n := r1.toNat) (m := (List.take r1.toNat k0_0)) (e := (eSl (eI .i64))) (es := clr (eSl (eI .i64)) k0_0 r1.toNat (k0_0.length - r1.toNat) (.own [])) (by kernel_rfl) (by kernel_rfl) (by kernel_rfl) (by rw [clr_len (by first | exact h15.1 | omega)]; exact h15.2.1) (clr_take h15.1 h15.2.2) (by kernel_rfl)) h
theorem L2_step (k0_0 : List (List Int)) (r1 : Int) (y6_L1 : Int) (φ : (List (List Int) × Bool) → Prop) (h :
    slices_DeleteFunc_ssint_sint_partition_groups_2_int_1.L1 k0_0 r1 ((IntKind.wrap .i64 (y6_L1 + 1))) φ) : L2 k0_0 r1 y6_L1 φ := by
  unfold L2
  refine Pt.reg (by kernel_rfl) ?_
  refine AtO.seg 3 (by kernel_rfl) ?_
  refine AtO.go (p' := [1, 1, 1, 0, 1, 0]) (F' := [(0, .own (k0_0.map (eSl (eI .i64)))), (1, .fn 64 []), (5, .lit (.int .i64 r1)), (6, .lit (.int .i64 ((IntKind.wrap .i64 (y6_L1 + 1)))))]) 0 (by kernel_rfl) (by kernel_rfl) ?_
  exact h
theorem enter (k0_0 : List (List Int)) (φ : (List (List Int) × Bool) → Prop) (h :
    ∃ r1 : Int, slices_IndexFunc_ssint_sint_partition_groups_2_int_1.C k0_0 r1 ∧
    (if r1 = (-1) then
      φ (⟨k0_0, true⟩)
    else
      slices_DeleteFunc_ssint_sint_partition_groups_2_int_1.L1 k0_0 r1 ((IntKind.wrap .i64 (r1 + 1))) φ)) : ∃ r, φ r ∧ C k0_0 r := by
  refine Ret.of_at (E := env) (f := 63) (fd := Tryd.f63) (body := B) (p := [0]) (V := W) (F := [(0, .own (k0_0.map (eSl (eI .i64)))), (1, .fn 64 []), (4, .undef), (5, .undef), (6, .undef), (7, .undef), (12, .undef), (19, .undef), (29, .undef)]) (res := res) (φ := φ) (ds := [.own (k0_0.map (eSl (eI .i64))), .fn 64 []]) (by kernel_rfl) (by kernel_rfl) (by kernel_rfl) ⟨Nat.le_of_ble_eq_true (by kernel_rfl), Nat.le_of_ble_eq_true (by kernel_rfl)⟩ (by kernel_rfl) (by kernel_rfl) (by kernel_rfl) ?_
  refine Pt.reg (by kernel_rfl) ?_
  refine AtO.seg 1 (by kernel_rfl) ?_
  refine AtO.go (p' := [1, 0]) (F' := [(0, .own (k0_0.map (eSl (eI .i64)))), (1, .fn 64 [])]) 0 (by kernel_rfl) (by kernel_rfl) ?_
  refine Pt.reg (by kernel_rfl) ?_
  obtain ⟨r1, h2, h⟩ := h
  refine AtO.seg 2 (by kernel_rfl) ?_
  refine AtO.call0 (x := (.func 66)) (g := 66) (caps := []) (agl := [.opn (.tmp 8), .opn (.tmp 9)]) (ds := [.sl (k0_0.map (eSl (eI .i64))), .fn 64 []]) (r := .lit (.int .i64 r1)) (r' := .lit (.int .i64 r1)) (ms := [none, none]) (by kernel_rfl) (by kernel_rfl) (by kernel_rfl) (by kernel_rfl) (by kernel_rfl) (by kernel_rfl) (pass_snap (a := .opn (.tmp 8)) (d0 := .alias 0 []) (d := .sl (k0_0.map (eSl (eI .i64)))) (by kernel_rfl) (by kernel_rfl) (snap_ow (s := 0) (ps := []) (l := k0_0) (e := (eSl (eI .i64))) (e' := (eSl (eI .i64))) (fun _ => rfl) (by kernel_rfl)) (pass_snap (a := .opn (.tmp 9)) (d0 := .fn 64 []) (d := .fn 64 []) (by kernel_rfl) (by kernel_rfl) (by kernel_rfl) pass_nil)) h2 rfl (by kernel_rfl) ?_
  refine AtO.seg 1 (by kernel_rfl) ?_
  refine AtO.go (p' := [1, 1, 0, 0]) (F' := [(0, .own (k0_0.map (eSl (eI .i64)))), (1, .fn 64 []), (5, .lit (.int .i64 r1))]) 0 (by kernel_rfl) (by kernel_rfl) ?_
  refine Pt.reg (by kernel_rfl) ?_
  refine AtO.seg 1 (by kernel_rfl) ?_
  refine AtO.bool (b := (r1 == (-1))) (by kernel_rfl) (by kernel_rfl) (fun hc => ?_) (fun hc => ?_)
  · have h := ite_t h (beq_t hc)
    refine AtO.go (p' := [1, 1, 0, 1, 0, 0]) (F' := [(0, .own (k0_0.map (eSl (eI .i64))))]) 1 (by kernel_rfl) (by kernel_rfl) ?_
    refine Pt.reg (by kernel_rfl) ?_
    refine AtO.seg 2 (by kernel_rfl) ?_
    refine AtO.go (p' := [1, 1, 0, 1, 0, 1]) (F' := [(0, .own (k0_0.map (eSl (eI .i64)))), (4, .alias 0 [])]) 0 (by kernel_rfl) (by kernel_rfl) ?_
    exact Pt.ret (⟨k0_0, true⟩) (by kernel_rfl) (by kernel_rfl) h
  · have h := ite_f h (beq_f hc)
    refine AtO.go (p' := [1, 1, 1, 0, 0]) (F' := [(0, .own (k0_0.map (eSl (eI .i64)))), (1, .fn 64 []), (5, .lit (.int .i64 r1))]) 2 (by kernel_rfl) (by kernel_rfl) ?_
    refine Pt.reg (by kernel_rfl) ?_
    refine AtO.seg 3 (by kernel_rfl) ?_
    refine AtO.go (p' := [1, 1, 1, 0, 1, 0]) (F' := [(0, .own (k0_0.map (eSl (eI .i64)))), (1, .fn 64 []), (5, .lit (.int .i64 r1)), (6, .lit (.int .i64 ((IntKind.wrap .i64 (r1 + 1)))))]) 0 (by kernel_rfl) (by kernel_rfl) ?_
    exact h
end slices_DeleteFunc_ssint_sint_partition_groups_2_int_1
end Go.Own

namespace Go.Own
open Go.Proofs D
set_option maxRecDepth 100000
set_option maxHeartbeats 4000000
namespace partition_groups_2_int
noncomputable def B : Code := (Tryd.f42.body).getD .skip
def W : List Nat := [0, 2, 3, 4, 5, 6, 7, 8, 10, 11, 12, 13, 24]
def res (r : List (List Int)) : D × List D := (.sl (r.map (eSl (eI .i64))), [])
def C (x0 : List (Int × Int)) (r : List (List Int)) : Prop := Ret env 42 [.sl (x0.map enc_arr2_Int)] (res r).1 (res r).2
def L1 (x0 : List (Int × Int)) (y3_L1 : List ((Int × Int) × Int)) (y4_L1 : List (List Int)) (y12_L1 : Int) (φ : List (List Int) → Prop) : Prop := Pt env 42 W B [1, 1, 1, 0, 1, 0] [(0, .sl (x0.map enc_arr2_Int)), (3, (eMap (fun (x : (Int × Int)) => Value.agg #[Value.int .i64 x.1, Value.int .i64 x.2]) (fun (x : Int) => D.lit (.int .i64 x)) y3_L1)), (4, .own (y4_L1.map (eOw (eI .i64)))), (10, .sl (x0.map enc_arr2_Int)), (11, .lit (.int .i64 ((x0.length : Int)))), (12, .lit (.int .i64 y12_L1))] (Lv env 42 Tryd.f42 1 res φ)
def L2 (x0 : List (Int × Int)) (y3_L2 : List ((Int × Int) × Int)) (y4_L1 : List (List Int)) (y12_L1 : Int) (y7_L2 : Int) (φ : List (List Int) → Prop) : Prop := Pt env 42 W B [1, 1, 1, 0, 1, 0, 0, 1, 1, 0, 0, 1, 1, 1] [(0, .sl (x0.map enc_arr2_Int)), (3, (eMap (fun (x : (Int × Int)) => Value.agg #[Value.int .i64 x.1, Value.int .i64 x.2]) (fun (x : Int) => D.lit (.int .i64 x)) y3_L2)), (4, .own (y4_L1.map (eOw (eI .i64)))), (5, .lit (.int .i64 y12_L1)), (7, .lit (.int .i64 y7_L2)), (10, .sl (x0.map enc_arr2_Int)), (11, .lit (.int .i64 ((x0.length : Int)))), (12, .lit (.int .i64 y12_L1))] (Lv env 42 Tryd.f42 1 res φ)
theorem L1_step (x0 : List (Int × Int)) (y3_L1 : List ((Int × Int) × Int)) (y4_L1 : List (List Int)) (y12_L1 : Int) (φ : List (List Int) → Prop) (h :
    (if y12_L1 < (x0.length : Int) then
      ∃ a1, lget x0 y12_L1 = some a1 ∧
      (if (mhas a1 y3_L1) = true then
        partition_groups_2_int.L2 x0 y3_L1 y4_L1 y12_L1 ((mgetD a1 y3_L1 0)) φ
      else
        (y4_L1.length + 1) * 24 ≤ 140737488355328 ∧
        partition_groups_2_int.L2 x0 ((mset a1 (y4_L1.length : Int) y3_L1)) ((y4_L1 ++ [[]])) y12_L1 ((y4_L1.length : Int)) φ)
    else
      ∃ r4 : (List (List Int) × Bool), slices_DeleteFunc_ssint_sint_partition_groups_2_int_1.C y4_L1 r4 ∧
      φ r4.1)) : L1 x0 y3_L1 y4_L1 y12_L1 φ := by
  unfold L1
  refine Pt.loop (p' := [1, 1, 1, 0, 1, 0, 0, 0]) (by kernel_rfl) (by kernel_rfl) ?_
  refine Pt.reg (by kernel_rfl) ?_
  refine AtO.bool (b := (decide (y12_L1 < (x0.length : Int)))) (by kernel_rfl) (by kernel_rfl) (fun hc => ?_) (fun hc => ?_)
  · have h := ite_t h (of_decide_eq_true hc)
    refine AtO.go (p' := [1, 1, 1, 0, 1, 0, 0, 1, 1, 0, 0, 0]) (F' := [(0, .sl (x0.map enc_arr2_Int)), (3, (eMap (fun (x : (Int × Int)) => Value.agg #[Value.int .i64 x.1, Value.int .i64 x.2]) (fun (x : Int) => D.lit (.int .i64 x)) y3_L1)), (4, .own (y4_L1.map (eOw (eI .i64)))), (10, .sl (x0.map enc_arr2_Int)), (11, .lit (.int .i64 ((x0.length : Int)))), (12, .lit (.int .i64 y12_L1))]) 2 (by kernel_rfl) (by kernel_rfl) ?_
    refine Pt.reg (by kernel_rfl) ?_
    obtain ⟨a1, h2, h⟩ := h
    refine AtO.seg 1 (by kernel_rfl) ?_
    refine AtO.val (by kernel_rfl) (val_idx_sl (t := 73) (x := (.tmp 10)) (ix := (.tmp 12)) (et := 74) (k := 2) (e := enc_arr2_Int) (l := x0) (i := y12_L1) (q := .i64) (a := a1) (by kernel_rfl) (by kernel_rfl) (by kernel_rfl) (by kernel_rfl) (by kernel_rfl) h2 (by kernel_rfl)) ?_
    refine AtO.seg 4 (by kernel_rfl) ?_
    refine AtO.go (p' := [1, 1, 1, 0, 1, 0, 0, 1, 1, 0, 0, 1, 0]) (F' := [(0, .sl (x0.map enc_arr2_Int)), (3, (eMap (fun (x : (Int × Int)) => Value.agg #[Value.int .i64 x.1, Value.int .i64 x.2]) (fun (x : Int) => D.lit (.int .i64 x)) y3_L1)), (4, .own (y4_L1.map (eOw (eI .i64)))), (5, .lit (.int .i64 y12_L1)), (6, .box [.lit (.int .i64 a1.1), .lit (.int .i64 a1.2)]), (10, .sl (x0.map enc_arr2_Int)), (11, .lit (.int .i64 ((x0.length : Int)))), (12, .lit (.int .i64 y12_L1))]) 0 (by kernel_rfl) (by kernel_rfl) ?_
    refine Pt.reg (by kernel_rfl) ?_
    refine AtO.seg 2 (by kernel_rfl) ?_
    refine AtO.val (by kernel_rfl) (val_lookup_t kb_arr2 (fun _ => by kernel_rfl) (ek := (fun (x : (Int × Int)) => Value.agg #[Value.int .i64 x.1, Value.int .i64 x.2])) (ev := (fun (x : Int) => D.lit (.int .i64 x))) (t := 104) (x := (.tmp 18)) (kx := (.tmp 19)) (s := 3) (ps := []) (l := y3_L1) (kd := .agg [.lit (.int .i64 a1.1), .lit (.int .i64 a1.2)]) (kv := a1) (kt := 74) (vt := 3) (v0 := 0) (by kernel_rfl) (by kernel_rfl) (by kernel_rfl) (by kernel_rfl) (by kernel_rfl) (by kernel_rfl) (by kernel_rfl) (by kernel_rfl)) ?_
    refine AtO.seg 5 (by kernel_rfl) ?_
    refine AtO.go (p' := [1, 1, 1, 0, 1, 0, 0, 1, 1, 0, 0, 1, 1, 0, 0]) (F' := [(0, .sl (x0.map enc_arr2_Int)), (3, (eMap (fun (x : (Int × Int)) => Value.agg #[Value.int .i64 x.1, Value.int .i64 x.2]) (fun (x : Int) => D.lit (.int .i64 x)) y3_L1)), (4, .own (y4_L1.map (eOw (eI .i64)))), (5, .lit (.int .i64 y12_L1)), (6, .box [.lit (.int .i64 a1.1), .lit (.int .i64 a1.2)]), (7, .lit (.int .i64 ((mgetD a1 y3_L1 0)))), (8, .lit (.bool ((mhas a1 y3_L1)))), (10, .sl (x0.map enc_arr2_Int)), (11, .lit (.int .i64 ((x0.length : Int)))), (12, .lit (.int .i64 y12_L1))]) 0 (by kernel_rfl) (by kernel_rfl) ?_
    refine Pt.reg (by kernel_rfl) ?_
    refine AtO.bool (b := (mhas a1 y3_L1)) (by kernel_rfl) (by kernel_rfl) (fun hc => ?_) (fun hc => ?_)
    · have h := ite_t h (id hc)
      refine AtO.seg 1 (by kernel_rfl) ?_
      refine AtO.go (p' := [1, 1, 1, 0, 1, 0, 0, 1, 1, 0, 0, 1, 1, 1]) (F' := [(0, .sl (x0.map enc_arr2_Int)), (3, (eMap (fun (x : (Int × Int)) => Value.agg #[Value.int .i64 x.1, Value.int .i64 x.2]) (fun (x : Int) => D.lit (.int .i64 x)) y3_L1)), (4, .own (y4_L1.map (eOw (eI .i64)))), (5, .lit (.int .i64 y12_L1)), (7, .lit (.int .i64 ((mgetD a1 y3_L1 0)))), (10, .sl (x0.map enc_arr2_Int)), (11, .lit (.int .i64 ((x0.length : Int)))), (12, .lit (.int .i64 y12_L1))]) 2 (by kernel_rfl) (by kernel_rfl) ?_
      exact h
    · have h := ite_f h (fls hc)
      refine AtO.seg 1 (by kernel_rfl) ?_
      refine AtO.go (p' := [1, 1, 1, 0, 1, 0, 0, 1, 1, 0, 0, 1, 1, 0, 1, 0, 0]) (F' := [(0, .sl (x0.map enc_arr2_Int)), (3, (eMap (fun (x : (Int × Int)) => Value.agg #[Value.int .i64 x.1, Value.int .i64 x.2]) (fun (x : Int) => D.lit (.int .i64 x)) y3_L1)), (4, .own (y4_L1.map (eOw (eI .i64)))), (5, .lit (.int .i64 y12_L1)), (6, .box [.lit (.int .i64 a1.1), .lit (.int .i64 a1.2)]), (10, .sl (x0.map enc_arr2_Int)), (11, .lit (.int .i64 ((x0.length : Int)))), (12, .lit (.int .i64 y12_L1))]) 1 (by kernel_rfl) (by kernel_rfl) ?_
      refine Pt.reg (by kernel_rfl) ?_
      refine AtO.seg 1 (by kernel_rfl) ?_
      refine AtO.val (by kernel_rfl) (val_len (x := (.tmp 25)) (t := 29) (et := 38) (d := .alias 4 []) (e := (eOw (eI .i64))) (l := y4_L1) (by kernel_rfl) (by kernel_rfl) (elemsOf_ow (by kernel_rfl)) (by kernel_rfl)) ?_
      refine AtO.seg 1 (by kernel_rfl) ?_
      refine AtO.go (p' := [1, 1, 1, 0, 1, 0, 0, 1, 1, 0, 0, 1, 1, 0, 1, 0, 1, 0]) (F' := [(0, .sl (x0.map enc_arr2_Int)), (3, (eMap (fun (x : (Int × Int)) => Value.agg #[Value.int .i64 x.1, Value.int .i64 x.2]) (fun (x : Int) => D.lit (.int .i64 x)) y3_L1)), (4, .own (y4_L1.map (eOw (eI .i64)))), (5, .lit (.int .i64 y12_L1)), (6, .box [.lit (.int .i64 a1.1), .lit (.int .i64 a1.2)]), (7, .lit (.int .i64 ((y4_L1.length : Int)))), (10, .sl (x0.map enc_arr2_Int)), (11, .lit (.int .i64 ((x0.length : Int)))), (12, .lit (.int .i64 y12_L1))]) 0 (by kernel_rfl) (by kernel_rfl) ?_
      refine Pt.reg (by kernel_rfl) ?_
      refine AtO.seg 3 (by kernel_rfl) ?_
      refine AtO.op (by kernel_rfl) (op_mapUpdate kb_arr2 (fun _ => by kernel_rfl) (ek := (fun (x : (Int × Int)) => Value.agg #[Value.int .i64 x.1, Value.int .i64 x.2])) (ev := (fun (x : Int) => D.lit (.int .i64 x))) (t := 104) (mx := (.tmp 27)) (kx := (.tmp 28)) (vx := (.tmp 29)) (s := 3) (ps := []) (l := y3_L1) (kd := .agg [.lit (.int .i64 a1.1), .lit (.int .i64 a1.2)]) (kv := a1) (kt := 74) (vt := 3) (v := (y4_L1.length : Int)) (d := .lit (.int .i64 ((y4_L1.length : Int)))) (by kernel_rfl) (by kernel_rfl) (by kernel_rfl) (by kernel_rfl) (by kernel_rfl) (by kernel_rfl) (by kernel_rfl) (by kernel_rfl) (by kernel_rfl) (setG_eq (by kernel_rfl))) ?_
      refine AtO.go (p' := [1, 1, 1, 0, 1, 0, 0, 1, 1, 0, 0, 1, 1, 0, 1, 0, 1, 1]) (F' := [(0, .sl (x0.map enc_arr2_Int)), (3, (eMap (fun (x : (Int × Int)) => Value.agg #[Value.int .i64 x.1, Value.int .i64 x.2]) (fun (x : Int) => D.lit (.int .i64 x)) ((mset a1 (y4_L1.length : Int) y3_L1)))), (4, .own (y4_L1.map (eOw (eI .i64)))), (5, .lit (.int .i64 y12_L1)), (7, .lit (.int .i64 ((y4_L1.length : Int)))), (10, .sl (x0.map enc_arr2_Int)), (11, .lit (.int .i64 ((x0.length : Int)))), (12, .lit (.int .i64 y12_L1))]) 0 (by kernel_rfl) (by kernel_rfl) ?_
      refine Pt.reg (by kernel_rfl) ?_
      obtain ⟨h3, h⟩ := h
      refine AtO.seg 2 (by kernel_rfl) ?_
      refine AtO.op (by kernel_rfl) (app1 (x := (.tmp 30)) (y := (.tmp 31)) (t := 29) (u := 29) (et := 38) (z := .own []) (k := 1) (c := 24) (e := (eOw (eI .i64))) (l := y4_L1) (m := [[]]) (by kernel_rfl) (by kernel_rfl) (by kernel_rfl) (by kernel_rfl) (by kernel_rfl) (by kernel_rfl) (by kernel_rfl) (by kernel_rfl) (by kernel_rfl) (by kernel_rfl) (by kernel_rfl) (fun _ => rfl) h3) ?_
      refine AtO.seg 1 (by kernel_rfl) ?_
      refine AtO.go (p' := [1, 1, 1, 0, 1, 0, 0, 1, 1, 0, 0, 1, 1, 1]) (F' := [(0, .sl (x0.map enc_arr2_Int)), (3, (eMap (fun (x : (Int × Int)) => Value.agg #[Value.int .i64 x.1, Value.int .i64 x.2]) (fun (x : Int) => D.lit (.int .i64 x)) ((mset a1 (y4_L1.length : Int) y3_L1)))), (4, .own (((y4_L1 ++ [[]])).map (eOw (eI .i64)))), (5, .lit (.int .i64 y12_L1)), (7, .lit (.int .i64 ((y4_L1.length : Int)))), (10, .sl (x0.map enc_arr2_Int)), (11, .lit (.int .i64 ((x0.length : Int)))), (12, .lit (.int .i64 y12_L1))]) 0 (by kernel_rfl) (by kernel_rfl) ?_
      exact h
  · have h := ite_f h (of_decide_eq_false hc)
    refine AtO.go (p' := [1, 1, 1, 0, 1, 0, 0, 1, 0, 1]) (F' := [(4, .own (y4_L1.map (eOw (eI .i64))))]) 1 (by kernel_rfl) (by kernel_rfl) ?_
    refine Pt.exit (p' := [1, 1, 1, 1, 0]) (F' := [(4, .own (y4_L1.map (eSl (eI .i64))))]) (by kernel_rfl) (by kernel_rfl) (trim_chill (F0 := [(4, .own (y4_L1.map (eOw (eI .i64))))]) (l := y4_L1) (e := (eI .i64)) (e' := (eI .i64)) (s := 4) (by kernel_rfl) (by kernel_rfl) (by kernel_rfl) (fun _ => rfl) (by kernel_rfl) (by kernel_rfl)) ?_
    refine Pt.reg (by kernel_rfl) ?_
    obtain ⟨r4, h5, h⟩ := h
    refine AtO.seg 1 (by kernel_rfl) ?_
    refine AtO.callN (x := (.func 63)) (g := 63) (caps := []) (agl := [.opn (.tmp 44), .opn (.func 64)]) (ds := [.own (y4_L1.map (eSl (eI .i64))), .fn 64 []]) (r := (sown (r4.1.map (eSl (eI .i64))) r4.2)) (r' := .sl (r4.1.map (eSl (eI .i64)))) (ms := [some (.own (y4_L1.map (eSl (eI .i64)))), none]) (l := none) (ld := none) (outs := []) (by kernel_rfl) (by kernel_rfl) (by kernel_rfl) (by kernel_rfl) (by kernel_rfl) (by kernel_rfl) (by kernel_rfl) (pass_move (a := .opn (.tmp 44)) (d := .own (y4_L1.map (eSl (eI .i64)))) (pass_snap (a := .opn (.func 64)) (d0 := .fn 64 []) (d := .fn 64 []) (by kernel_rfl) (by kernel_rfl) (by kernel_rfl) pass_nil)) h5 (ite_both (by kernel_rfl)) (by kernel_rfl) (cold_sown (l := r4.1) (e := (eSl (eI .i64))) (by kernel_rfl) (fun _ => rfl)) ?_
    refine AtO.seg 1 (by kernel_rfl) ?_
    refine AtO.go (p' := [1, 1, 1, 1, 1]) (F' := [(2, .sl (r4.1.map (eSl (eI .i64))))]) 0 (by kernel_rfl) (by kernel_rfl) ?_
    exact Pt.ret r4.1 (by kernel_rfl) (by kernel_rfl) h
theorem L2_step (x0 : List (Int × Int)) (y3_L2 : List ((Int × Int) × Int)) (y4_L1 : List (List Int)) (y12_L1 : Int) (y7_L2 : Int) (φ : List (List Int) → Prop) (h :
    ∃ a6, lget y4_L1 y7_L2 = some a6 ∧
    (a6.length + 1) * 8 ≤ 140737488355328 ∧
    partition_groups_2_int.L1 x0 y3_L2 ((lset y4_L1 y7_L2 (a6 ++ [y12_L1]))) ((IntKind.wrap .i64 (y12_L1 + 1))) φ) : L2 x0 y3_L2 y4_L1 y12_L1 y7_L2 φ := by
  unfold L2
  refine Pt.reg (by kernel_rfl) ?_
  obtain ⟨a6, h7, h⟩ := h
  refine AtO.seg 4 (by kernel_rfl) ?_
  refine AtO.val (by kernel_rfl) (val_idx_ow (s := 4) (ps := []) (t := 29) (x := (.tmp 35)) (ix := (.tmp 36)) (et := 38) (k := 1) (e := (eOw (eI .i64))) (l := y4_L1) (i := y7_L2) (q := .i64) (a := a6) (by kernel_rfl) (by kernel_rfl) (by kernel_rfl) (by kernel_rfl) (by kernel_rfl) (by kernel_rfl) h7 (by kernel_rfl)) ?_
  refine AtO.val (by kernel_rfl) (val_load_ow (t := 38) (x := (.tmp 37)) (s := 4) (ps := []) (n := (y7_L2.toNat)) (c := 0) (e := (eOw (eI .i64))) (l := y4_L1) (a := a6) (d := .alias 4 [((y7_L2.toNat), 0)]) (by kernel_rfl) (by kernel_rfl) (by kernel_rfl) (by kernel_rfl) (lget_some h7).2 (by kernel_rfl)) ?_
  obtain ⟨h8, h⟩ := h
  refine AtO.seg 2 (by kernel_rfl) ?_
  refine AtO.op (by kernel_rfl) (app2 (x := (.tmp 38)) (y := (.tmp 40)) (t := 38) (u := 38) (et := 3) (z := .lit (.int .i64 0)) (k := 1) (c := 8) (e := (eI .i64)) (l := a6) (m := [y12_L1]) (by kernel_rfl) (by kernel_rfl) (by kernel_rfl) (by kernel_rfl) (by kernel_rfl) (take_el (s := 4) (ps := []) (n := (y7_L2.toNat)) (c := 0) (e := (eOw (eI .i64))) (l := y4_L1) (a := a6) (by kernel_rfl) (by kernel_rfl) (lget_some h7).2 (by kernel_rfl) (by kernel_rfl) (setG_eq (by kernel_rfl))) (by kernel_rfl) (by kernel_rfl) (by kernel_rfl) (by kernel_rfl) (by kernel_rfl) (fun _ => rfl) h8) ?_
  refine AtO.val (by kernel_rfl) (val_idx_hole (s := 4) (ps := []) (cs := [.undef]) (t := 29) (x := (.tmp 33)) (ix := (.tmp 34)) (et := 38) (k := 1) (e := (eOw (eI .i64))) (l := y4_L1) (i := y7_L2) (q := .i64) (a := a6) (by kernel_rfl) (by kernel_rfl) (by kernel_rfl) (by kernel_rfl) (by kernel_rfl) (by kernel_rfl) h7 (by kernel_rfl)) ?_
  refine AtO.op (by kernel_rfl) (store2 (t := 38) (x := (.tmp 42)) (y := (.tmp 41)) (s := 4) (ps := []) (n := (y7_L2.toNat)) (e := (eOw (eI .i64))) (l := y4_L1) (a := a6) (b := (a6 ++ [y12_L1])) (k := 1) (cs := [.undef]) (d := .own (((a6 ++ [y12_L1])).map (eI .i64))) (by kernel_rfl) (by kernel_rfl) (by kernel_rfl) (by kernel_rfl) (lget_some h7).2 (by kernel_rfl) (by kernel_rfl) (by kernel_rfl) (by kernel_rfl) (by kernel_rfl) (setG_eq (by kernel_rfl))) ?_
  refine AtO.go (p' := [1, 1, 1, 0, 1, 0, 0, 1, 1, 1]) (F' := [(0, .sl (x0.map enc_arr2_Int)), (3, (eMap (fun (x : (Int × Int)) => Value.agg #[Value.int .i64 x.1, Value.int .i64 x.2]) (fun (x : Int) => D.lit (.int .i64 x)) y3_L2)), (4, .own (((lset y4_L1 y7_L2 (a6 ++ [y12_L1]))).map (eOw (eI .i64)))), (10, .sl (x0.map enc_arr2_Int)), (11, .lit (.int .i64 ((x0.length : Int)))), (12, .lit (.int .i64 y12_L1))]) 0 (by kernel_rfl) (by kernel_rfl) ?_
  refine Pt.reg (by kernel_rfl) ?_
  refine AtO.seg 2 (by kernel_rfl) ?_
  refine AtO.go (p' := [1, 1, 1, 0, 1, 0]) (F' := [(0, .sl (x0.map enc_arr2_Int)), (3, (eMap (fun (x : (Int × Int)) => Value.agg #[Value.int .i64 x.1, Value.int .i64 x.2]) (fun (x : Int) => D.lit (.int .i64 x)) y3_L2)), (4, .own (((lset y4_L1 y7_L2 (a6 ++ [y12_L1]))).map (eOw (eI .i64)))), (10, .sl (x0.map enc_arr2_Int)), (11, .lit (.int .i64 ((x0.length : Int)))), (12, .lit (.int .i64 ((IntKind.wrap .i64 (y12_L1 + 1)))))]) 0 (by kernel_rfl) (by kernel_rfl) ?_
  exact h
theorem enter (x0 : List (Int × Int)) (φ : List (List Int) → Prop) (h :
    partition_groups_2_int.L1 x0 ([]) ([]) 0 φ) : ∃ r, φ r ∧ C x0 r := by
  refine Ret.of_at (E := env) (f := 42) (fd := Tryd.f42) (body := B) (p := [0]) (V := W) (F := [(0, .sl (x0.map enc_arr2_Int)), (2, .undef), (3, .undef), (4, .undef), (5, .undef), (6, .undef), (7, .undef), (8, .undef), (10, .undef), (11, .undef), (12, .undef), (13, .undef), (24, .undef)]) (res := res) (φ := φ) (ds := [.sl (x0.map enc_arr2_Int)]) (by kernel_rfl) (by kernel_rfl) (by kernel_rfl) ⟨Nat.le_of_ble_eq_true (by kernel_rfl), Nat.le_of_ble_eq_true (by kernel_rfl)⟩ (by kernel_rfl) (by kernel_rfl) (by kernel_rfl) ?_
  refine Pt.reg (by kernel_rfl) ?_
  refine AtO.seg 1 (by kernel_rfl) ?_
  refine AtO.go (p' := [1, 0]) (F' := [(0, .sl (x0.map enc_arr2_Int))]) 0 (by kernel_rfl) (by kernel_rfl) ?_
  refine Pt.reg (by kernel_rfl) ?_
  refine AtO.seg 2 (by kernel_rfl) ?_
  refine AtO.go (p' := [1, 1, 0]) (F' := [(0, .sl (x0.map enc_arr2_Int)), (3, (eMap (fun (x : (Int × Int)) => Value.agg #[Value.int .i64 x.1, Value.int .i64 x.2]) (fun (x : Int) => D.lit (.int .i64 x)) ([])))]) 0 (by kernel_rfl) (by kernel_rfl) ?_
  refine Pt.reg (by kernel_rfl) ?_
  refine AtO.seg 1 (by kernel_rfl) ?_
  refine AtO.go (p' := [1, 1, 1, 0, 0]) (F' := [(0, .sl (x0.map enc_arr2_Int)), (3, (eMap (fun (x : (Int × Int)) => Value.agg #[Value.int .i64 x.1, Value.int .i64 x.2]) (fun (x : Int) => D.lit (.int .i64 x)) ([]))), (4, .own [])]) 0 (by kernel_rfl) (by kernel_rfl) ?_
  refine Pt.reg (by kernel_rfl) ?_
  refine AtO.seg 1 (by kernel_rfl) ?_
  refine AtO.val (by kernel_rfl) (val_len (x := (.tmp 10)) (t := 73) (et := 74) (d := .sl (x0.map enc_arr2_Int)) (e := enc_arr2_Int) (l := x0) (by kernel_rfl) (by kernel_rfl) elemsOf_sl (by kernel_rfl)) ?_
  refine AtO.seg 1 (by kernel_rfl) ?_
  refine AtO.go (p' := [1, 1, 1, 0, 1, 0]) (F' := [(0, .sl (x0.map enc_arr2_Int)), (3, (eMap (fun (x : (Int × Int)) => Value.agg #[Value.int .i64 x.1, Value.int .i64 x.2]) (fun (x : Int) => D.lit (.int .i64 x)) ([]))), (4, .own []), (10, .sl (x0.map enc_arr2_Int)), (11, .lit (.int .i64 ((x0.length : Int)))), (12, .lit (.int .i64 0))]) 0 (by kernel_rfl) (by kernel_rfl) ?_
  exact h
end partition_groups_2_int
end Go.Own

namespace Go.Own
def cls {α : Type} [DecidableEq α] (l : List α) (a : α) : List Int := ((List.range l.length).filter fun k => decide (l[k]? = some a)).map fun (k : Nat) => (k : Int)
def fsts {α : Type} [DecidableEq α] (l : List α) : List α := l.foldl (fun acc a => if a ∈ acc then acc else acc ++ [a]) []
def grpF {α : Type} [DecidableEq α] (l : List α) : List (List Int) := ((fsts l).map (cls l)).filter fun c => decide (2 ≤ c.length)
section
variable {α : Type} [DecidableEq α]
theorem fsts_snoc {l : List α} {a : α} : fsts (l ++ [a]) = if a ∈ fsts l then fsts l else fsts l ++ [a] := by
  unfold fsts
  rw [List.foldl_append]
  rfl
theorem list_snoc_ind {p : List α → Prop} (h0 : p []) (h1 : ∀ l a, p l → p (l ++ [a])) : ∀ l, p l := by
  intro l
  have : ∀ n (l : List α), l.length = n → p l := by
    intro n
    induction n with
    | zero => intro l hl; rw [List.length_eq_zero_iff.1 hl]; exact h0
    | succ n ih =>
      intro l hl
      have hne : l ≠ [] := fun h => by rw [h] at hl; simp at hl
      rw [← List.dropLast_concat_getLast hne]
      exact h1 _ _ (ih _ (by simp [hl]))
  exact this _ l rfl
theorem mem_fsts {l : List α} {a : α} : a ∈ fsts l ↔ a ∈ l := by
  refine list_snoc_ind (p := fun l => a ∈ fsts l ↔ a ∈ l) (by simp [fsts]) (fun l b ih => ?_) l
  rw [fsts_snoc]
  split
  · rename_i hb
    rw [ih]
    simp only [List.mem_append, List.mem_singleton]
    constructor
    · exact .inl
    · rintro (h | rfl)
      · exact h
      · have : a ∈ fsts l := hb
        exact ih.1 this
  · simp only [List.mem_append, List.mem_singleton, ih]
theorem fsts_nodup {l : List α} : (fsts l).Nodup := by
  refine list_snoc_ind (p := fun l => (fsts l).Nodup) (by simp [fsts]) (fun l b ih => ?_) l
  rw [fsts_snoc]
  split
  · exact ih
  · rename_i hb
    rw [List.nodup_append]
    exact ⟨ih, by simp, fun x hx y hy => by simp at hy; subst hy; exact fun h => hb (h ▸ hx)⟩
theorem cls_snoc {l : List α} {a b : α} : cls (l ++ [b]) a = if b = a then cls l a ++ [(l.length : Int)] else cls l a := by
  unfold cls
  rw [List.length_append, List.length_singleton, List.range_succ, List.filter_append, List.map_append]
  have h1 : ((List.range l.length).filter fun k => decide ((l ++ [b])[k]? = some a)) = (List.range l.length).filter fun k => decide (l[k]? = some a) := by
    refine List.filter_congr fun k hk => ?_
    rw [List.getElem?_append_left (by simpa using hk)]
  rw [h1]
  by_cases h : b = a
  · simp [h]
  · simp [h]
theorem cls_nil {a : α} : cls [] a = [] := rfl
theorem cls_out {l : List α} {a : α} (h : a ∉ l) : cls l a = [] := by
  unfold cls
  have : ((List.range l.length).filter fun k => decide (l[k]? = some a)) = [] := by
    rw [List.filter_eq_nil_iff]
    intro k _ hk
    exact h (List.mem_of_getElem? (by simpa using hk))
  rw [this]; rfl
theorem mem_cls {l : List α} {a : α} {i : Int} : i ∈ cls l a ↔ lget l i = some a := by
  unfold cls
  simp only [List.mem_map, List.mem_filter, List.mem_range, decide_eq_true_eq]
  constructor
  · rintro ⟨k, ⟨_, h⟩, rfl⟩; rw [lget_nat]; exact h
  · intro h
    obtain ⟨h0, h1⟩ := lget_some h
    exact ⟨i.toNat, ⟨(List.getElem?_eq_some_iff.1 h1).1, h1⟩, by omega⟩
end
namespace drossref08_group
theorem inner {x0 : List Int} {cs : List (List Int)} {i : Nat} {a : Int} {φ : api_Partition → Prop} (hn : x0.length ≤ 10000) (hcs : cs.length ≤ 10000) (hi : x0[i]? = some a) : ∀ (r : List Int) (k : Nat), x0.drop k = r →
    (if a ∈ x0.take i then L4 x0 cs i φ else if 2 ≤ (cls x0 a).length then L4 x0 (cs ++ [cls x0 a]) i φ else L4 x0 cs i φ) → L2 x0 cs i (cls (x0.take k) a) (decide (a ∈ x0.take (min k i))) k φ
  | [], k, hd, h => by
    apply L2_step
    have hk := drop_ge hd
    have hil := (List.getElem?_eq_some_iff.1 hi).1
    rw [if_neg (by omega), List.take_of_length_le hk, Nat.min_eq_right (by omega)]
    split at h
    · rename_i h1; rw [if_pos (by simpa using h1)]; exact h
    · rename_i h1
      rw [if_neg (by simpa using h1)]
      split at h
      · rename_i h2; rw [if_pos (by omega)]; exact ⟨by omega, h⟩
      · rename_i h2; rw [if_neg (by omega)]; exact h
  | b :: r, k, hd, h => by
    apply L2_step
    have hk := drop_lt hd
    rw [if_pos (by omega)]
    refine ⟨b, lget_drop hd, a, by rw [lget_nat]; exact hi, ?_⟩
    have htk : x0.take (k + 1) = x0.take k ++ [b] := by rw [List.take_add_one, drop_get hd]; rfl
    have hlen : (x0.take k).length = k := by rw [List.length_take]; omega
    have ih := inner hn hcs hi r (k + 1) (drop_next hd) h
    rw [htk, cls_snoc, hlen] at ih
    have hcl : (cls (x0.take k) a).length ≤ 10000 := by
      unfold cls
      rw [List.length_map]
      exact Nat.le_trans (List.length_filter_le _ _) (by simp; omega)
    split
    · rename_i hba
      subst hba
      rw [if_pos rfl] at ih
      refine ⟨by omega, ?_⟩
      have key : L3 x0 cs i (cls (x0.take k) b ++ [(k : Int)]) (decide (b ∈ x0.take (min (k + 1) i))) k φ := by
        apply L3_step
        rw [wrap_succ (by omega)]
        exact ih
      by_cases hki : k < i
      · have e1 : min (k + 1) i = k + 1 := by omega
        have e2 : b ∈ x0.take (k + 1) := by rw [htk]; simp
        rw [e1] at key
        simp only [e2, decide_true] at key
        split
        · exact key
        · rw [show decide ((k : Int) < (i : Int)) = true from by simp; omega]; exact key
      · have e1 : min (k + 1) i = i := by omega
        have e2 : min k i = i := by omega
        rw [e1] at key
        rw [e2]
        split
        · rename_i h3; rw [h3] at key; exact key
        · rename_i h3
          have h4 : decide (b ∈ x0.take i) = false := by simpa using h3
          rw [h4] at key
          rw [show decide ((k : Int) < (i : Int)) = false from by simp; omega]; exact key
    · rename_i hba
      rw [if_neg hba] at ih
      apply L3_step
      rw [wrap_succ (by omega)]
      have e : decide (a ∈ x0.take (min (k + 1) i)) = decide (a ∈ x0.take (min k i)) := by
        by_cases hki : k < i
        · have e1 : min (k + 1) i = k + 1 := by omega
          have e2 : min k i = k := by omega
          rw [e1, e2, htk]
          simp only [List.mem_append, List.mem_singleton, Ne.symm hba, or_false]
        · have e1 : min (k + 1) i = i := by omega
          have e2 : min k i = i := by omega
          rw [e1, e2]
      rw [e] at ih
      exact ih
theorem outer {x0 : List Int} {φ : api_Partition → Prop} (hn : x0.length ≤ 10000) : ∀ (r : List Int) (i : Nat), x0.drop i = r → φ ⟨x0.length, grpF x0⟩ →
    L1 x0 (((fsts (x0.take i)).map (cls x0)).filter fun c => decide (2 ≤ c.length)) i φ
  | [], i, hd, h => by
    apply L1_step
    have hk := drop_ge hd
    rw [if_neg (by omega), List.take_of_length_le hk]
    exact h
  | a :: r, i, hd, h => by
    apply L1_step
    have hk := drop_lt hd
    rw [if_pos (by omega)]
    have htk : x0.take (i + 1) = x0.take i ++ [a] := by rw [List.take_add_one, drop_get hd]; rfl
    have ih := outer hn r (i + 1) (drop_next hd) h
    rw [htk, fsts_snoc] at ih
    have hle : ∀ l : List Int, (fsts l).length ≤ l.length := by
      intro l
      refine list_snoc_ind (p := fun l => (fsts l).length ≤ l.length) (by simp [fsts]) (fun l b ih => ?_) l
      rw [fsts_snoc]
      split
      · simp; omega
      · simp; omega
    have := inner (φ := φ) (cs := ((fsts (x0.take i)).map (cls x0)).filter fun c => decide (2 ≤ c.length)) hn (by
      refine Nat.le_trans (List.length_filter_le _ _) ?_
      rw [List.length_map]
      have := hle (x0.take i)
      rw [List.length_take] at this; omega) (drop_get hd) x0 0 rfl
    rw [List.take_zero, Nat.zero_min, List.take_zero] at this
    refine this ?_
    have next : ∀ cs, L1 x0 cs ((i + 1 : Nat) : Int) φ → L4 x0 cs i φ := fun cs hc => by
      apply L4_step
      rw [wrap_succ (by omega)]
      exact hc
    split
    · rename_i h1
      rw [if_pos (mem_fsts.2 h1)] at ih
      exact next _ ih
    · rename_i h1
      rw [if_neg (fun h => h1 (mem_fsts.1 h)), List.map_append, List.filter_append] at ih
      split
      · rename_i h2
        refine next _ ?_
        simpa [h2] using ih
      · rename_i h2
        refine next _ ?_
        simpa [h2] using ih
theorem spec {x0 : List Int} (hn : x0.length ≤ 10000) : C x0 ⟨x0.length, grpF x0⟩ := by
  obtain ⟨r, h1, h2⟩ := enter x0 (fun r => r = ⟨x0.length, grpF x0⟩) (by
    have := outer (φ := fun r => r = ⟨x0.length, grpF x0⟩) hn x0 0 rfl rfl
    simpa [fsts] using this)
  rw [← h1]; exact h2
end drossref08_group
namespace drossref08_From
theorem loop {x0 : List Int} {φ : api_Partition → Prop} (hn : x0.length ≤ 10000) (hr : ∀ x ∈ x0, 0 ≤ x ∧ x < 256) : ∀ (r : List Int) (k : Nat), x0.drop k = r → φ ⟨x0.length, grpF x0⟩ → L1 x0 (x0.take k) k φ
  | [], k, hd, h => by
    apply L1_step
    have hk := drop_ge hd
    rw [if_neg (by omega), List.take_of_length_le hk]
    exact ⟨_, drossref08_group.spec hn, h⟩
  | a :: r, k, hd, h => by
    apply L1_step
    have hk := drop_lt hd
    rw [if_pos (by omega)]
    have ha := hr a (List.mem_of_getElem? (drop_get hd))
    refine ⟨a, lget_drop hd, by rw [List.length_take]; omega, ?_⟩
    have htk : x0.take (k + 1) = x0.take k ++ [a] := by rw [List.take_add_one, drop_get hd]; rfl
    rw [wrap_id (x := a) (by omega) (by omega), wrap_succ (by omega), ← htk]
    exact loop hn hr r (k + 1) (drop_next hd) h
theorem spec {x0 : List Int} (hn : x0.length ≤ 10000) (hr : ∀ x ∈ x0, 0 ≤ x ∧ x < 256) : C x0 ⟨x0.length, grpF x0⟩ := by
  obtain ⟨r, h1, h2⟩ := enter x0 (fun r => r = ⟨x0.length, grpF x0⟩) (loop hn hr x0 0 rfl rfl)
  rw [← h1]; exact h2
end drossref08_From
end Go.Own
